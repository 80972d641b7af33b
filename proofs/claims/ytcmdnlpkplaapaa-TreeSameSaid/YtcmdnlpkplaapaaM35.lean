import Derived.Test.YtcmdnlpkplaapaaEngAK
import Derived.Test.YtcmdnlpkplaapaaM32
import Derived.Test.YtcmdnlpkplaapaaEngAH
import Derived.Test.YtcmdnlpkplaapaaM26
import Derived.Test.YtcmdnlpkplaapaaM28
import Derived.Test.YtcmdnlpkplaapaaM27
import Derived.KernelRfl
import Derived.Test.YtcmdnlpkplaapaaM30
set_option linter.unusedVariables false
set_option linter.unusedSimpArgs false
set_option maxRecDepth 100000
namespace Go.Proofs.Eng
open Go
section
variable {Γ : Sums} {A : Tab} {N : Nat -> Nat}
theorem Vw.cg {H : Hp} {sz : Nat} {x : AV} {es : List AV} (h : Vw H sz x es) : x.cells = [x] /\ x.good = true := by
 rcases h with (⟨rfl,_⟩ | rfl) | ⟨id,off,e,all,rfl,_⟩ <;> exact ⟨rfl,rfl⟩
end
end Go.Proofs.Eng
namespace Go.Proofs.Eng
open Go
theorem Vw.atf {H : Hp} {sz : Nat} {x : AV} {es : List AV} {k : IntKind} {i off : Nat} {ys : List AV} {v : AV} (h : Vw H sz x es) (h1 : es[i]? = some (.agg ys)) (hl : ys.length = sz) (hg : ys.all AV.one = true) (hv : ys[off]? = some v) : ∃ p q,aiaddr sz x (.lit (.int k (i : Int))) = some p /\ afaddr off p = some q /\ aload H none q = some v := by
 have hi := (List.getElem?_eq_some_iff.1 h1).1
 have hd : ys.drop off = v :: ys.drop (off + 1) := by
  obtain ⟨ho,e⟩ := List.getElem?_eq_some_iff.1 hv
  rw [List.drop_eq_getElem_cons ho,e]
 rcases h with (⟨_,he⟩ | rfl) | ⟨id,o,t,all,rfl,h2,h3,h4⟩
 ·rw [he] at h1; simp at h1
 ·refine ⟨.vp ys,.vp (ys.drop off),by simpa [AV.cells] using aiaddr_sln (sz := sz) (k := k) h1 (by simpa [AV.good] using hg),rfl,?_⟩
  simp [loadC,hd]
 ·refine ⟨.ep id (o + i) 0,.ep id (o + i) (0 + off),by simp [aiaddr,hi],rfl,?_⟩
  have he : all[o + i]? = some (.agg ys) := by
   rw [<- h1,<- h4,List.getElem?_take,if_pos hi,List.getElem?_drop]
  simp only [aload,h2,he]
  rw [if_pos (by simpa [AV.good] using hg),if_neg (by simp),if_pos (by simpa [AV.cells] using hl)]
  simp [AV.cells,loadC,hd]
end Go.Proofs.Eng
namespace Go.Proofs.Eng
open Go

def L_tree_two_terms_1 (N : Nat -> Nat) : AC :=
 .seq (
 .ops [⟨some 70,.bin .lss (.t 69) (.t 68),none⟩]) (
 .seq (
 .cond (.t 70) (
 .skip) (
 .exit 0)) (
 .seq (
 .block 1 (
 .seq (
 .ops [⟨some 71,.mov (.t 69),none⟩,⟨some 9,.mov (.t 71),none⟩]) (
 .seq (
 .dops 7 [⟨some 72,.load (some 6) (.t 3),none⟩,⟨some 73,.faddr 7 (.t 7),none⟩,⟨some 74,.load none (.t 73),none⟩,⟨some 75,.mov (.t 9),none⟩,⟨some 76,.iaddr 1 (.t 74) (.t 75),none⟩,⟨some 77,.load none (.t 76),none⟩,⟨some 78,.faddr 7 (.t 8),none⟩,⟨some 79,.load none (.t 78),none⟩,⟨some 80,.mov (.t 9),none⟩,⟨some 81,.iaddr 1 (.t 79) (.t 80),none⟩,⟨some 82,.load none (.t 81),none⟩,⟨some 83,.call (.c (.fn (f_tree_two_types N) [] [])) [(.t 72),(.t 77),(.t 82)],none⟩,⟨some 84,.un .not (.t 83),none⟩] [2,0,2,0,0,2,0,2,0,0,2,0,0] []) (
 .cond (.t 84) (
 .seq (
 .ops [⟨some 6,.mov (.c (.lit (.bool false))),none⟩]) (
 .ret)) (
 .skip))))) (
 .ops [⟨some 85,.bin .add (.t 69) (.c (.lit (.int .i64 1))),none⟩,⟨some 69,.mov (.t 85),none⟩])))
def L_tree_two_terms_2 (N : Nat -> Nat) : AC :=
 .seq (
 .ops [⟨some 90,.bin .lss (.t 89) (.t 88),none⟩]) (
 .seq (
 .cond (.t 90) (
 .skip) (
 .exit 2)) (
 .seq (
 .block 3 (
 .seq (
 .ops [⟨some 91,.mov (.t 89),none⟩,⟨some 10,.mov (.t 91),none⟩]) (
 .seq (
 .dops 13 [⟨some 92,.load (some 6) (.t 3),none⟩,⟨some 93,.faddr 6 (.t 7),none⟩,⟨some 94,.load none (.t 93),none⟩,⟨some 95,.mov (.t 10),none⟩,⟨some 96,.iaddr 1 (.t 94) (.t 95),none⟩,⟨some 97,.load none (.t 96),none⟩,⟨some 98,.faddr 6 (.t 8),none⟩,⟨some 99,.load none (.t 98),none⟩,⟨some 100,.mov (.t 10),none⟩,⟨some 101,.iaddr 1 (.t 99) (.t 100),none⟩,⟨some 102,.load none (.t 101),none⟩,⟨some 103,.call (.c (.fn (f_tree_two_terms N) [] [])) [(.t 92),(.t 97),(.t 102)],none⟩,⟨some 104,.un .not (.t 103),none⟩] [2,0,2,0,0,2,0,2,0,0,2,0,0] []) (
 .cond (.t 104) (
 .seq (
 .ops [⟨some 6,.mov (.c (.lit (.bool false))),none⟩]) (
 .ret)) (
 .skip))))) (
 .ops [⟨some 105,.bin .add (.t 89) (.c (.lit (.int .i64 1))),none⟩,⟨some 89,.mov (.t 105),none⟩])))
def K_tree_two_terms_2 (N : Nat -> Nat) : AC :=
 .seq (
 .ops [⟨some 6,.mov (.c (.lit (.bool true))),none⟩]) (
 .ret)
def K_tree_two_terms_1 (N : Nat -> Nat) : AC :=
 .seq (
 .seq (
 .ops [⟨some 86,.faddr 6 (.t 7),none⟩,⟨some 87,.load none (.t 86),none⟩,⟨some 88,.len (.t 87),none⟩,⟨some 89,.mov (.c (.lit (.int .i64 0))),none⟩]) (
 .block 2 (
 .loop (L_tree_two_terms_2 N)))) (K_tree_two_terms_2 N)
def C_tree_two_terms (N : Nat -> Nat) : AFunc := ⟨106,[.inl 6],
 .seq (
 .ops [⟨some 3,.box (t_tree_two N) (.t 0),none⟩,⟨some 6,.mov (.c (.lit (.bool false))),none⟩]) (
 .seq (
 .dops 1 [⟨some 11,.faddr 0 (.t 3),none⟩,⟨some 12,.faddr 0 (.t 11),none⟩,⟨some 13,.load none (.t 12),none⟩,⟨some 14,.mov (.t 1),none⟩,⟨some 15,.iaddr 8 (.t 13) (.t 14),none⟩,⟨some 16,.load (some 8) (.t 15),none⟩,⟨some 17,.faddr 3 (.t 3),none⟩,⟨some 18,.faddr 0 (.t 17),none⟩,⟨some 19,.load none (.t 18),none⟩,⟨some 20,.mov (.t 2),none⟩,⟨some 21,.iaddr 8 (.t 19) (.t 20),none⟩,⟨some 22,.load (some 8) (.t 21),none⟩,⟨some 7,.new (t_api_Node N) (.agg [(.lit (.int .i64 0)),(.lit (.int .i64 0)),(.lit (.string (mkS []))),(.lit (.int .i64 0)),(.lit (.int .u64 0)),(.lit (.slice none 0 0)),(.lit (.slice none 0 0)),(.lit (.slice none 0 0))]),none⟩,⟨some 8,.new (t_api_Node N) (.agg [(.lit (.int .i64 0)),(.lit (.int .i64 0)),(.lit (.string (mkS []))),(.lit (.int .i64 0)),(.lit (.int .u64 0)),(.lit (.slice none 0 0)),(.lit (.slice none 0 0)),(.lit (.slice none 0 0))]),none⟩,⟨none,.store 8 (.t 7) (.t 16),none⟩,⟨none,.store 8 (.t 8) (.t 22),none⟩] [0,0,2,0,0,2,0,0,2,0,0,2,1,1,3,0] []) (
 .seq (
 .seq (
 .ops [⟨some 23,.faddr 0 (.t 7),none⟩,⟨some 24,.load none (.t 23),none⟩,⟨some 25,.faddr 0 (.t 8),none⟩,⟨some 26,.load none (.t 25),none⟩,⟨some 27,.eq true .pint (.t 24) (.t 26),none⟩,⟨some 28,.mov (.t 27),none⟩,⟨some 29,.faddr 2 (.t 7),(some (28,false))⟩,⟨some 30,.load none (.t 29),(some (28,false))⟩,⟨some 31,.faddr 2 (.t 8),(some (28,false))⟩,⟨some 32,.load none (.t 31),(some (28,false))⟩,⟨some 33,.eq true .pstr (.t 30) (.t 32),(some (28,false))⟩,⟨some 34,.pick (.t 28) (.c (.lit (.bool true))) (.t 33),none⟩,⟨some 35,.mov (.t 34),none⟩,⟨some 36,.faddr 3 (.t 7),(some (35,false))⟩,⟨some 37,.load none (.t 36),(some (35,false))⟩,⟨some 38,.faddr 3 (.t 8),(some (35,false))⟩,⟨some 39,.load none (.t 38),(some (35,false))⟩,⟨some 40,.eq true .pint (.t 37) (.t 39),(some (35,false))⟩,⟨some 41,.pick (.t 35) (.c (.lit (.bool true))) (.t 40),none⟩,⟨some 42,.mov (.t 41),none⟩,⟨some 43,.faddr 4 (.t 7),(some (42,false))⟩,⟨some 44,.load none (.t 43),(some (42,false))⟩,⟨some 45,.faddr 4 (.t 8),(some (42,false))⟩,⟨some 46,.load none (.t 45),(some (42,false))⟩,⟨some 47,.eq true .pint (.t 44) (.t 46),(some (42,false))⟩,⟨some 48,.pick (.t 42) (.c (.lit (.bool true))) (.t 47),none⟩,⟨some 49,.mov (.t 48),none⟩,⟨some 50,.faddr 5 (.t 7),(some (49,false))⟩,⟨some 51,.load none (.t 50),(some (49,false))⟩,⟨some 52,.faddr 5 (.t 8),(some (49,false))⟩,⟨some 53,.load none (.t 52),(some (49,false))⟩,⟨some 54,.call (.c (.fn (f_slices_Equal_sl_string_string N) [] [])) [(.t 51),(.t 53)],(some (49,false))⟩,⟨some 55,.un .not (.t 54),(some (49,false))⟩,⟨some 56,.pick (.t 49) (.c (.lit (.bool true))) (.t 55),none⟩,⟨some 57,.mov (.t 56),none⟩,⟨some 58,.faddr 6 (.t 7),(some (57,false))⟩,⟨some 59,.load none (.t 58),(some (57,false))⟩,⟨some 60,.len (.t 59),(some (57,false))⟩,⟨some 61,.faddr 6 (.t 8),(some (57,false))⟩,⟨some 62,.load none (.t 61),(some (57,false))⟩,⟨some 63,.len (.t 62),(some (57,false))⟩,⟨some 64,.eq true .pint (.t 60) (.t 63),(some (57,false))⟩,⟨some 65,.pick (.t 57) (.c (.lit (.bool true))) (.t 64),none⟩]) (
 .cond (.t 65) (
 .seq (
 .ops [⟨some 6,.mov (.c (.lit (.bool false))),none⟩]) (
 .ret)) (
 .skip))) (
 .seq (
 .seq (
 .ops [⟨some 66,.faddr 7 (.t 7),none⟩,⟨some 67,.load none (.t 66),none⟩,⟨some 68,.len (.t 67),none⟩,⟨some 69,.mov (.c (.lit (.int .i64 0))),none⟩]) (
 .block 0 (
 .loop (L_tree_two_terms_1 N)))) (K_tree_two_terms_1 N)))),false⟩

def L_tree_two_types_1 (N : Nat -> Nat) : AC :=
 .seq (
 .ops [⟨some 62,.bin .lss (.t 61) (.t 60),none⟩]) (
 .seq (
 .cond (.t 62) (
 .skip) (
 .exit 0)) (
 .seq (
 .block 1 (
 .seq (
 .ops [⟨some 63,.mov (.t 61),none⟩,⟨some 9,.mov (.t 63),none⟩]) (
 .seq (
 .dops 7 [⟨some 64,.load (some 6) (.t 3),none⟩,⟨some 65,.faddr 4 (.t 7),none⟩,⟨some 66,.load none (.t 65),none⟩,⟨some 67,.mov (.t 9),none⟩,⟨some 68,.iaddr 1 (.t 66) (.t 67),none⟩,⟨some 69,.load none (.t 68),none⟩,⟨some 70,.faddr 4 (.t 8),none⟩,⟨some 71,.load none (.t 70),none⟩,⟨some 72,.mov (.t 9),none⟩,⟨some 73,.iaddr 1 (.t 71) (.t 72),none⟩,⟨some 74,.load none (.t 73),none⟩,⟨some 75,.call (.c (.fn (f_tree_two_types N) [] [])) [(.t 64),(.t 69),(.t 74)],none⟩,⟨some 76,.un .not (.t 75),none⟩] [2,0,2,0,0,2,0,2,0,0,2,0,0] []) (
 .cond (.t 76) (
 .seq (
 .ops [⟨some 6,.mov (.c (.lit (.bool false))),none⟩]) (
 .ret)) (
 .skip))))) (
 .ops [⟨some 77,.bin .add (.t 61) (.c (.lit (.int .i64 1))),none⟩,⟨some 61,.mov (.t 77),none⟩])))
def K_tree_two_types_1 (N : Nat -> Nat) : AC :=
 .seq (
 .ops [⟨some 6,.mov (.c (.lit (.bool true))),none⟩]) (
 .ret)
def C_tree_two_types (N : Nat -> Nat) : AFunc := ⟨78,[.inl 6],
 .seq (
 .ops [⟨some 3,.box (t_tree_two N) (.t 0),none⟩,⟨some 6,.mov (.c (.lit (.bool false))),none⟩]) (
 .seq (
 .dops 1 [⟨some 10,.faddr 0 (.t 3),none⟩,⟨some 11,.faddr 1 (.t 10),none⟩,⟨some 12,.load none (.t 11),none⟩,⟨some 13,.mov (.t 1),none⟩,⟨some 14,.iaddr 6 (.t 12) (.t 13),none⟩,⟨some 15,.load (some 6) (.t 14),none⟩,⟨some 16,.faddr 3 (.t 3),none⟩,⟨some 17,.faddr 1 (.t 16),none⟩,⟨some 18,.load none (.t 17),none⟩,⟨some 19,.mov (.t 2),none⟩,⟨some 20,.iaddr 6 (.t 18) (.t 19),none⟩,⟨some 21,.load (some 6) (.t 20),none⟩,⟨some 7,.new (t_api_TypeNode N) (.agg [(.lit (.int .i64 0)),(.lit (.int .i64 0)),(.lit (.string (mkS []))),(.lit (.slice none 0 0)),(.lit (.slice none 0 0)),(.lit (.bool false))]),none⟩,⟨some 8,.new (t_api_TypeNode N) (.agg [(.lit (.int .i64 0)),(.lit (.int .i64 0)),(.lit (.string (mkS []))),(.lit (.slice none 0 0)),(.lit (.slice none 0 0)),(.lit (.bool false))]),none⟩,⟨none,.store 6 (.t 7) (.t 15),none⟩,⟨none,.store 6 (.t 8) (.t 21),none⟩] [0,0,2,0,0,2,0,0,2,0,0,2,1,1,3,0] []) (
 .seq (
 .seq (
 .ops [⟨some 22,.faddr 0 (.t 7),none⟩,⟨some 23,.load none (.t 22),none⟩,⟨some 24,.faddr 0 (.t 8),none⟩,⟨some 25,.load none (.t 24),none⟩,⟨some 26,.eq true .pint (.t 23) (.t 25),none⟩,⟨some 27,.mov (.t 26),none⟩,⟨some 28,.faddr 2 (.t 7),(some (27,false))⟩,⟨some 29,.load none (.t 28),(some (27,false))⟩,⟨some 30,.faddr 2 (.t 8),(some (27,false))⟩,⟨some 31,.load none (.t 30),(some (27,false))⟩,⟨some 32,.eq true .pstr (.t 29) (.t 31),(some (27,false))⟩,⟨some 33,.pick (.t 27) (.c (.lit (.bool true))) (.t 32),none⟩,⟨some 34,.mov (.t 33),none⟩,⟨some 35,.faddr 5 (.t 7),(some (34,false))⟩,⟨some 36,.load none (.t 35),(some (34,false))⟩,⟨some 37,.faddr 5 (.t 8),(some (34,false))⟩,⟨some 38,.load none (.t 37),(some (34,false))⟩,⟨some 39,.eq true .pbool (.t 36) (.t 38),(some (34,false))⟩,⟨some 40,.pick (.t 34) (.c (.lit (.bool true))) (.t 39),none⟩,⟨some 41,.mov (.t 40),none⟩,⟨some 42,.faddr 3 (.t 7),(some (41,false))⟩,⟨some 43,.load none (.t 42),(some (41,false))⟩,⟨some 44,.faddr 3 (.t 8),(some (41,false))⟩,⟨some 45,.load none (.t 44),(some (41,false))⟩,⟨some 46,.call (.c (.fn (f_slices_Equal_sl_string_string N) [] [])) [(.t 43),(.t 45)],(some (41,false))⟩,⟨some 47,.un .not (.t 46),(some (41,false))⟩,⟨some 48,.pick (.t 41) (.c (.lit (.bool true))) (.t 47),none⟩,⟨some 49,.mov (.t 48),none⟩,⟨some 50,.faddr 4 (.t 7),(some (49,false))⟩,⟨some 51,.load none (.t 50),(some (49,false))⟩,⟨some 52,.len (.t 51),(some (49,false))⟩,⟨some 53,.faddr 4 (.t 8),(some (49,false))⟩,⟨some 54,.load none (.t 53),(some (49,false))⟩,⟨some 55,.len (.t 54),(some (49,false))⟩,⟨some 56,.eq true .pint (.t 52) (.t 55),(some (49,false))⟩,⟨some 57,.pick (.t 49) (.c (.lit (.bool true))) (.t 56),none⟩]) (
 .cond (.t 57) (
 .seq (
 .ops [⟨some 6,.mov (.c (.lit (.bool false))),none⟩]) (
 .ret)) (
 .skip))) (
 .seq (
 .seq (
 .ops [⟨some 58,.faddr 4 (.t 7),none⟩,⟨some 59,.load none (.t 58),none⟩,⟨some 60,.len (.t 59),none⟩,⟨some 61,.mov (.c (.lit (.int .i64 0))),none⟩]) (
 .block 0 (
 .loop (L_tree_two_types_1 N)))) (K_tree_two_types_1 N)))),false⟩
end Go.Proofs.Eng
namespace Go.Proofs.Eng
open Go
section
variable {E : Env} {ρ : Rho} {H : Hp}
@[simp ↓] theorem wpE_mov {v0 : Opd} {R : List Nat} {d : Option Nat} {r : List AOper} {q : Nat} {qs : List Nat} {Q : Rho -> Hp -> Prop} : wpE E R (⟨d,.mov v0,none⟩ :: r) (q :: qs) ρ H Q = wpA E (lvQ q) (.mov v0) ρ H (fun v H' => wpE E R r qs (updO ρ d v) H' Q) := wpE_other rfl rfl
@[simp ↓] theorem wpE_new {v0 : TypeId} {v1 : AV} {R : List Nat} {d : Option Nat} {r : List AOper} {q : Nat} {qs : List Nat} {Q : Rho -> Hp -> Prop} : wpE E R (⟨d,.new v0 v1,none⟩ :: r) (q :: qs) ρ H Q = wpA E (lvQ q) (.new v0 v1) ρ H (fun v H' => wpE E R r qs (updO ρ d v) H' Q) := wpE_other rfl rfl
@[simp ↓] theorem wpE_faddr {v0 : Nat} {v1 : Opd} {R : List Nat} {d : Option Nat} {r : List AOper} {q : Nat} {qs : List Nat} {Q : Rho -> Hp -> Prop} : wpE E R (⟨d,.faddr v0 v1,none⟩ :: r) (q :: qs) ρ H Q = wpA E (lvQ q) (.faddr v0 v1) ρ H (fun v H' => wpE E R r qs (updO ρ d v) H' Q) := wpE_other rfl rfl
@[simp ↓] theorem wpE_iaddr {v0 : Nat} {v1 v2 : Opd} {R : List Nat} {d : Option Nat} {r : List AOper} {q : Nat} {qs : List Nat} {Q : Rho -> Hp -> Prop} : wpE E R (⟨d,.iaddr v0 v1 v2,none⟩ :: r) (q :: qs) ρ H Q = wpA E (lvQ q) (.iaddr v0 v1 v2) ρ H (fun v H' => wpE E R r qs (updO ρ d v) H' Q) := wpE_other rfl rfl
end
end Go.Proofs.Eng
namespace Go.Proofs.Eng
open Go
section
variable {Γ : Sums} {A : Tab} {N : Nat -> Nat}
structure TwoC (Γ : Sums) (A : Tab) (N : Nat -> Nat) : Prop where
 types : Has Γ A (f_tree_two_types N) (C_tree_two_types N)
 terms : Has Γ A (f_tree_two_terms N) (C_tree_two_terms N)
 equal : Has Γ A (f_slices_Equal_sl_string_string N) (C_slices_Equal_sl_string_string N)
theorem rid_lt {H : Hp} {n : Option Nat} {p v : AV} (h : aload H n p = some v) : ∀ id ∈ ridOf p,id < H.l.length := by
 intro id hid
 unfold aload at h
 split at h
 ·split at h
  ·rename_i e; simp [ridOf] at hid; subst hid; exact hget_lt e
  ·cases h
 ·split at h
  ·rename_i e; simp [ridOf] at hid; subst hid; exact hget_lt e
  ·cases h
 ·simp [ridOf] at hid
 ·cases h
def KidsY (l : List Ty) : Prop := ∀ (j : Nat) (n : Ty),l[j]? = some n -> ∀ k ∈ n.kids,0 <= k /\ k < (j : Int)
end
end Go.Proofs.Eng
namespace Go.Proofs.Eng
open Go

def L_ref04_Same_1 (N : Nat -> Nat) : AC :=
 .seq (
 .ops [⟨some 27,.bin .lss (.t 26) (.t 25),none⟩]) (
 .seq (
 .cond (.t 27) (
 .skip) (
 .exit 0)) (
 .seq (
 .block 1 (
 .seq (
 .ops [⟨some 28,.mov (.t 26),none⟩,⟨some 5,.mov (.t 28),none⟩]) (
 .seq (
 .dops 6 [⟨some 29,.faddr 2 (.t 2),none⟩,⟨some 30,.load none (.t 29),none⟩,⟨some 31,.mov (.t 5),none⟩,⟨some 32,.iaddr 3 (.t 30) (.t 31),none⟩,⟨some 33,.faddr 0 (.t 32),none⟩,⟨some 34,.load none (.t 33),none⟩,⟨some 35,.faddr 2 (.t 3),none⟩,⟨some 36,.load none (.t 35),none⟩,⟨some 37,.mov (.t 5),none⟩,⟨some 38,.iaddr 3 (.t 36) (.t 37),none⟩,⟨some 39,.faddr 0 (.t 38),none⟩,⟨some 40,.load none (.t 39),none⟩,⟨some 41,.eq true .pstr (.t 34) (.t 40),none⟩,⟨some 42,.mov (.t 41),none⟩,⟨some 43,.load (some 3) (.t 2),(some (42,false))⟩,⟨some 44,.faddr 2 (.t 2),(some (42,false))⟩,⟨some 45,.load none (.t 44),(some (42,false))⟩,⟨some 46,.mov (.t 5),(some (42,false))⟩,⟨some 47,.iaddr 3 (.t 45) (.t 46),(some (42,false))⟩,⟨some 48,.faddr 1 (.t 47),(some (42,false))⟩,⟨some 49,.load none (.t 48),(some (42,false))⟩,⟨some 50,.load (some 3) (.t 3),(some (42,false))⟩,⟨some 51,.faddr 2 (.t 3),(some (42,false))⟩,⟨some 52,.load none (.t 51),(some (42,false))⟩,⟨some 53,.mov (.t 5),(some (42,false))⟩,⟨some 54,.iaddr 3 (.t 52) (.t 53),(some (42,false))⟩,⟨some 55,.faddr 1 (.t 54),(some (42,false))⟩,⟨some 56,.load none (.t 55),(some (42,false))⟩,⟨some 57,.call (.c (.fn (f_ref04_SameType N) [] [])) [(.t 43),(.t 49),(.t 50),(.t 56)],(some (42,false))⟩,⟨some 58,.un .not (.t 57),(some (42,false))⟩,⟨some 59,.pick (.t 42) (.c (.lit (.bool true))) (.t 58),none⟩] [0,2,0,0,0,2,0,2,0,0,0,2,0,0,2,0,2,0,0,0,2,2,0,2,0,0,0,2,0,0,0] []) (
 .cond (.t 59) (
 .seq (
 .ops [⟨some 4,.mov (.c (.lit (.bool false))),none⟩]) (
 .ret)) (
 .skip))))) (
 .ops [⟨some 60,.bin .add (.t 26) (.c (.lit (.int .i64 1))),none⟩,⟨some 26,.mov (.t 60),none⟩])))
def K_ref04_Same_1 (N : Nat -> Nat) : AC :=
 .seq (
 .ops [⟨some 61,.load (some 3) (.t 2),none⟩,⟨some 62,.faddr 0 (.t 2),none⟩,⟨some 63,.load none (.t 62),none⟩,⟨some 64,.len (.t 63),none⟩,⟨some 65,.bin .sub (.t 64) (.c (.lit (.int .i64 1))),none⟩,⟨some 66,.load (some 3) (.t 3),none⟩,⟨some 67,.faddr 0 (.t 3),none⟩,⟨some 68,.load none (.t 67),none⟩,⟨some 69,.len (.t 68),none⟩,⟨some 70,.bin .sub (.t 69) (.c (.lit (.int .i64 1))),none⟩,⟨some 71,.call (.c (.fn (f_ref04_SameTerm N) [] [])) [(.t 61),(.t 65),(.t 66),(.t 70)],none⟩,⟨some 4,.mov (.t 71),none⟩]) (
 .ret)
def C_ref04_Same (N : Nat -> Nat) : AFunc := ⟨72,[.inl 4],
 .seq (
 .ops [⟨some 2,.box (t_api_Tree N) (.t 0),none⟩,⟨some 3,.box (t_api_Tree N) (.t 1),none⟩,⟨some 4,.mov (.c (.lit (.bool false))),none⟩]) (
 .seq (
 .seq (
 .ops [⟨some 6,.load (some 3) (.t 2),none⟩,⟨some 7,.call (.c (.fn (f_ref04_Right N) [] [])) [(.t 6)],none⟩,⟨some 8,.un .not (.t 7),none⟩,⟨some 9,.mov (.t 8),none⟩,⟨some 10,.load (some 3) (.t 3),(some (9,false))⟩,⟨some 11,.call (.c (.fn (f_ref04_Right N) [] [])) [(.t 10)],(some (9,false))⟩,⟨some 12,.un .not (.t 11),(some (9,false))⟩,⟨some 13,.pick (.t 9) (.c (.lit (.bool true))) (.t 12),none⟩,⟨some 14,.mov (.t 13),none⟩,⟨some 15,.faddr 2 (.t 2),(some (14,false))⟩,⟨some 16,.load none (.t 15),(some (14,false))⟩,⟨some 17,.len (.t 16),(some (14,false))⟩,⟨some 18,.faddr 2 (.t 3),(some (14,false))⟩,⟨some 19,.load none (.t 18),(some (14,false))⟩,⟨some 20,.len (.t 19),(some (14,false))⟩,⟨some 21,.eq true .pint (.t 17) (.t 20),(some (14,false))⟩,⟨some 22,.pick (.t 14) (.c (.lit (.bool true))) (.t 21),none⟩]) (
 .cond (.t 22) (
 .seq (
 .ops [⟨some 4,.mov (.c (.lit (.bool false))),none⟩]) (
 .ret)) (
 .skip))) (
 .seq (
 .seq (
 .ops [⟨some 23,.faddr 2 (.t 2),none⟩,⟨some 24,.load none (.t 23),none⟩,⟨some 25,.len (.t 24),none⟩,⟨some 26,.mov (.c (.lit (.int .i64 0))),none⟩]) (
 .block 0 (
 .loop (L_ref04_Same_1 N)))) (K_ref04_Same_1 N))),false⟩

def L_ref04_SameTerm_1 (N : Nat -> Nat) : AC :=
 .seq (
 .ops [⟨some 79,.bin .lss (.t 78) (.t 77),none⟩]) (
 .seq (
 .cond (.t 79) (
 .skip) (
 .exit 0)) (
 .seq (
 .block 1 (
 .seq (
 .ops [⟨some 80,.mov (.t 78),none⟩,⟨some 11,.mov (.t 80),none⟩]) (
 .seq (
 .dops 7 [⟨some 81,.load (some 3) (.t 4),none⟩,⟨some 82,.faddr 6 (.t 9),none⟩,⟨some 83,.load none (.t 82),none⟩,⟨some 84,.mov (.t 11),none⟩,⟨some 85,.iaddr 1 (.t 83) (.t 84),none⟩,⟨some 86,.load none (.t 85),none⟩,⟨some 87,.load (some 3) (.t 6),none⟩,⟨some 88,.faddr 6 (.t 10),none⟩,⟨some 89,.load none (.t 88),none⟩,⟨some 90,.mov (.t 11),none⟩,⟨some 91,.iaddr 1 (.t 89) (.t 90),none⟩,⟨some 92,.load none (.t 91),none⟩,⟨some 93,.call (.c (.fn (f_ref04_SameTerm N) [] [])) [(.t 81),(.t 86),(.t 87),(.t 92)],none⟩,⟨some 94,.un .not (.t 93),none⟩] [2,0,2,0,0,2,2,0,2,0,0,2,0,0] []) (
 .cond (.t 94) (
 .seq (
 .ops [⟨some 8,.mov (.c (.lit (.bool false))),none⟩]) (
 .ret)) (
 .skip))))) (
 .ops [⟨some 95,.bin .add (.t 78) (.c (.lit (.int .i64 1))),none⟩,⟨some 78,.mov (.t 95),none⟩])))
def L_ref04_SameTerm_2 (N : Nat -> Nat) : AC :=
 .seq (
 .ops [⟨some 100,.bin .lss (.t 99) (.t 98),none⟩]) (
 .seq (
 .cond (.t 100) (
 .skip) (
 .exit 2)) (
 .seq (
 .block 3 (
 .seq (
 .ops [⟨some 101,.mov (.t 99),none⟩,⟨some 12,.mov (.t 101),none⟩]) (
 .seq (
 .dops 13 [⟨some 102,.load (some 3) (.t 4),none⟩,⟨some 103,.faddr 7 (.t 9),none⟩,⟨some 104,.load none (.t 103),none⟩,⟨some 105,.mov (.t 12),none⟩,⟨some 106,.iaddr 1 (.t 104) (.t 105),none⟩,⟨some 107,.load none (.t 106),none⟩,⟨some 108,.load (some 3) (.t 6),none⟩,⟨some 109,.faddr 7 (.t 10),none⟩,⟨some 110,.load none (.t 109),none⟩,⟨some 111,.mov (.t 12),none⟩,⟨some 112,.iaddr 1 (.t 110) (.t 111),none⟩,⟨some 113,.load none (.t 112),none⟩,⟨some 114,.call (.c (.fn (f_ref04_SameType N) [] [])) [(.t 102),(.t 107),(.t 108),(.t 113)],none⟩,⟨some 115,.un .not (.t 114),none⟩] [2,0,2,0,0,2,2,0,2,0,0,2,0,0] []) (
 .cond (.t 115) (
 .seq (
 .ops [⟨some 8,.mov (.c (.lit (.bool false))),none⟩]) (
 .ret)) (
 .skip))))) (
 .ops [⟨some 116,.bin .add (.t 99) (.c (.lit (.int .i64 1))),none⟩,⟨some 99,.mov (.t 116),none⟩])))
def K_ref04_SameTerm_2 (N : Nat -> Nat) : AC :=
 .seq (
 .ops [⟨some 8,.mov (.c (.lit (.bool true))),none⟩]) (
 .ret)
def K_ref04_SameTerm_1 (N : Nat -> Nat) : AC :=
 .seq (
 .seq (
 .ops [⟨some 96,.faddr 7 (.t 9),none⟩,⟨some 97,.load none (.t 96),none⟩,⟨some 98,.len (.t 97),none⟩,⟨some 99,.mov (.c (.lit (.int .i64 0))),none⟩]) (
 .block 2 (
 .loop (L_ref04_SameTerm_2 N)))) (K_ref04_SameTerm_2 N)
def C_ref04_SameTerm (N : Nat -> Nat) : AFunc := ⟨117,[.inl 8],
 .seq (
 .ops [⟨some 4,.box (t_api_Tree N) (.t 0),none⟩,⟨some 6,.box (t_api_Tree N) (.t 2),none⟩,⟨some 8,.mov (.c (.lit (.bool false))),none⟩]) (
 .seq (
 .dops 1 [⟨some 13,.faddr 0 (.t 4),none⟩,⟨some 14,.load none (.t 13),none⟩,⟨some 15,.mov (.t 1),none⟩,⟨some 16,.iaddr 8 (.t 14) (.t 15),none⟩,⟨some 17,.load (some 8) (.t 16),none⟩,⟨some 18,.faddr 0 (.t 6),none⟩,⟨some 19,.load none (.t 18),none⟩,⟨some 20,.mov (.t 3),none⟩,⟨some 21,.iaddr 8 (.t 19) (.t 20),none⟩,⟨some 22,.load (some 8) (.t 21),none⟩,⟨some 9,.new (t_api_Node N) (.agg [(.lit (.int .i64 0)),(.lit (.int .i64 0)),(.lit (.string (mkS []))),(.lit (.int .i64 0)),(.lit (.int .u64 0)),(.lit (.slice none 0 0)),(.lit (.slice none 0 0)),(.lit (.slice none 0 0))]),none⟩,⟨some 10,.new (t_api_Node N) (.agg [(.lit (.int .i64 0)),(.lit (.int .i64 0)),(.lit (.string (mkS []))),(.lit (.int .i64 0)),(.lit (.int .u64 0)),(.lit (.slice none 0 0)),(.lit (.slice none 0 0)),(.lit (.slice none 0 0))]),none⟩,⟨none,.store 8 (.t 9) (.t 17),none⟩,⟨none,.store 8 (.t 10) (.t 22),none⟩] [0,2,0,0,2,0,2,0,0,2,1,1,3,0] []) (
 .seq (
 .seq (
 .ops [⟨some 23,.faddr 0 (.t 9),none⟩,⟨some 24,.load none (.t 23),none⟩,⟨some 25,.faddr 0 (.t 10),none⟩,⟨some 26,.load none (.t 25),none⟩,⟨some 27,.eq true .pint (.t 24) (.t 26),none⟩,⟨some 28,.mov (.t 27),none⟩,⟨some 29,.faddr 2 (.t 9),(some (28,false))⟩,⟨some 30,.load none (.t 29),(some (28,false))⟩,⟨some 31,.faddr 2 (.t 10),(some (28,false))⟩,⟨some 32,.load none (.t 31),(some (28,false))⟩,⟨some 33,.eq true .pstr (.t 30) (.t 32),(some (28,false))⟩,⟨some 34,.pick (.t 28) (.c (.lit (.bool true))) (.t 33),none⟩,⟨some 35,.mov (.t 34),none⟩,⟨some 36,.faddr 3 (.t 9),(some (35,false))⟩,⟨some 37,.load none (.t 36),(some (35,false))⟩,⟨some 38,.faddr 3 (.t 10),(some (35,false))⟩,⟨some 39,.load none (.t 38),(some (35,false))⟩,⟨some 40,.eq true .pint (.t 37) (.t 39),(some (35,false))⟩,⟨some 41,.pick (.t 35) (.c (.lit (.bool true))) (.t 40),none⟩,⟨some 42,.mov (.t 41),none⟩,⟨some 43,.faddr 4 (.t 9),(some (42,false))⟩,⟨some 44,.load none (.t 43),(some (42,false))⟩,⟨some 45,.faddr 4 (.t 10),(some (42,false))⟩,⟨some 46,.load none (.t 45),(some (42,false))⟩,⟨some 47,.eq true .pint (.t 44) (.t 46),(some (42,false))⟩,⟨some 48,.pick (.t 42) (.c (.lit (.bool true))) (.t 47),none⟩,⟨some 49,.mov (.t 48),none⟩,⟨some 50,.faddr 5 (.t 9),(some (49,false))⟩,⟨some 51,.load none (.t 50),(some (49,false))⟩,⟨some 52,.faddr 5 (.t 10),(some (49,false))⟩,⟨some 53,.load none (.t 52),(some (49,false))⟩,⟨some 54,.call (.c (.fn (f_ref04_same N) [] [])) [(.t 51),(.t 53)],(some (49,false))⟩,⟨some 55,.un .not (.t 54),(some (49,false))⟩,⟨some 56,.pick (.t 49) (.c (.lit (.bool true))) (.t 55),none⟩,⟨some 57,.mov (.t 56),none⟩,⟨some 58,.faddr 6 (.t 9),(some (57,false))⟩,⟨some 59,.load none (.t 58),(some (57,false))⟩,⟨some 60,.len (.t 59),(some (57,false))⟩,⟨some 61,.faddr 6 (.t 10),(some (57,false))⟩,⟨some 62,.load none (.t 61),(some (57,false))⟩,⟨some 63,.len (.t 62),(some (57,false))⟩,⟨some 64,.eq true .pint (.t 60) (.t 63),(some (57,false))⟩,⟨some 65,.pick (.t 57) (.c (.lit (.bool true))) (.t 64),none⟩,⟨some 66,.mov (.t 65),none⟩,⟨some 67,.faddr 7 (.t 9),(some (66,false))⟩,⟨some 68,.load none (.t 67),(some (66,false))⟩,⟨some 69,.len (.t 68),(some (66,false))⟩,⟨some 70,.faddr 7 (.t 10),(some (66,false))⟩,⟨some 71,.load none (.t 70),(some (66,false))⟩,⟨some 72,.len (.t 71),(some (66,false))⟩,⟨some 73,.eq true .pint (.t 69) (.t 72),(some (66,false))⟩,⟨some 74,.pick (.t 66) (.c (.lit (.bool true))) (.t 73),none⟩]) (
 .cond (.t 74) (
 .seq (
 .ops [⟨some 8,.mov (.c (.lit (.bool false))),none⟩]) (
 .ret)) (
 .skip))) (
 .seq (
 .seq (
 .ops [⟨some 75,.faddr 6 (.t 9),none⟩,⟨some 76,.load none (.t 75),none⟩,⟨some 77,.len (.t 76),none⟩,⟨some 78,.mov (.c (.lit (.int .i64 0))),none⟩]) (
 .block 0 (
 .loop (L_ref04_SameTerm_1 N)))) (K_ref04_SameTerm_1 N)))),false⟩

def L_ref04_SameType_1 (N : Nat -> Nat) : AC :=
 .seq (
 .ops [⟨some 62,.bin .lss (.t 61) (.t 60),none⟩]) (
 .seq (
 .cond (.t 62) (
 .skip) (
 .exit 0)) (
 .seq (
 .block 1 (
 .seq (
 .ops [⟨some 63,.mov (.t 61),none⟩,⟨some 11,.mov (.t 63),none⟩]) (
 .seq (
 .dops 7 [⟨some 64,.load (some 3) (.t 4),none⟩,⟨some 65,.faddr 4 (.t 9),none⟩,⟨some 66,.load none (.t 65),none⟩,⟨some 67,.mov (.t 11),none⟩,⟨some 68,.iaddr 1 (.t 66) (.t 67),none⟩,⟨some 69,.load none (.t 68),none⟩,⟨some 70,.load (some 3) (.t 6),none⟩,⟨some 71,.faddr 4 (.t 10),none⟩,⟨some 72,.load none (.t 71),none⟩,⟨some 73,.mov (.t 11),none⟩,⟨some 74,.iaddr 1 (.t 72) (.t 73),none⟩,⟨some 75,.load none (.t 74),none⟩,⟨some 76,.call (.c (.fn (f_ref04_SameType N) [] [])) [(.t 64),(.t 69),(.t 70),(.t 75)],none⟩,⟨some 77,.un .not (.t 76),none⟩] [2,0,2,0,0,2,2,0,2,0,0,2,0,0] []) (
 .cond (.t 77) (
 .seq (
 .ops [⟨some 8,.mov (.c (.lit (.bool false))),none⟩]) (
 .ret)) (
 .skip))))) (
 .ops [⟨some 78,.bin .add (.t 61) (.c (.lit (.int .i64 1))),none⟩,⟨some 61,.mov (.t 78),none⟩])))
def K_ref04_SameType_1 (N : Nat -> Nat) : AC :=
 .seq (
 .ops [⟨some 8,.mov (.c (.lit (.bool true))),none⟩]) (
 .ret)
def C_ref04_SameType (N : Nat -> Nat) : AFunc := ⟨79,[.inl 8],
 .seq (
 .ops [⟨some 4,.box (t_api_Tree N) (.t 0),none⟩,⟨some 6,.box (t_api_Tree N) (.t 2),none⟩,⟨some 8,.mov (.c (.lit (.bool false))),none⟩]) (
 .seq (
 .dops 1 [⟨some 12,.faddr 1 (.t 4),none⟩,⟨some 13,.load none (.t 12),none⟩,⟨some 14,.mov (.t 1),none⟩,⟨some 15,.iaddr 6 (.t 13) (.t 14),none⟩,⟨some 16,.load (some 6) (.t 15),none⟩,⟨some 17,.faddr 1 (.t 6),none⟩,⟨some 18,.load none (.t 17),none⟩,⟨some 19,.mov (.t 3),none⟩,⟨some 20,.iaddr 6 (.t 18) (.t 19),none⟩,⟨some 21,.load (some 6) (.t 20),none⟩,⟨some 9,.new (t_api_TypeNode N) (.agg [(.lit (.int .i64 0)),(.lit (.int .i64 0)),(.lit (.string (mkS []))),(.lit (.slice none 0 0)),(.lit (.slice none 0 0)),(.lit (.bool false))]),none⟩,⟨some 10,.new (t_api_TypeNode N) (.agg [(.lit (.int .i64 0)),(.lit (.int .i64 0)),(.lit (.string (mkS []))),(.lit (.slice none 0 0)),(.lit (.slice none 0 0)),(.lit (.bool false))]),none⟩,⟨none,.store 6 (.t 9) (.t 16),none⟩,⟨none,.store 6 (.t 10) (.t 21),none⟩] [0,2,0,0,2,0,2,0,0,2,1,1,3,0] []) (
 .seq (
 .seq (
 .ops [⟨some 22,.faddr 0 (.t 9),none⟩,⟨some 23,.load none (.t 22),none⟩,⟨some 24,.faddr 0 (.t 10),none⟩,⟨some 25,.load none (.t 24),none⟩,⟨some 26,.eq true .pint (.t 23) (.t 25),none⟩,⟨some 27,.mov (.t 26),none⟩,⟨some 28,.faddr 2 (.t 9),(some (27,false))⟩,⟨some 29,.load none (.t 28),(some (27,false))⟩,⟨some 30,.faddr 2 (.t 10),(some (27,false))⟩,⟨some 31,.load none (.t 30),(some (27,false))⟩,⟨some 32,.eq true .pstr (.t 29) (.t 31),(some (27,false))⟩,⟨some 33,.pick (.t 27) (.c (.lit (.bool true))) (.t 32),none⟩,⟨some 34,.mov (.t 33),none⟩,⟨some 35,.faddr 5 (.t 9),(some (34,false))⟩,⟨some 36,.load none (.t 35),(some (34,false))⟩,⟨some 37,.faddr 5 (.t 10),(some (34,false))⟩,⟨some 38,.load none (.t 37),(some (34,false))⟩,⟨some 39,.eq true .pbool (.t 36) (.t 38),(some (34,false))⟩,⟨some 40,.pick (.t 34) (.c (.lit (.bool true))) (.t 39),none⟩,⟨some 41,.mov (.t 40),none⟩,⟨some 42,.faddr 3 (.t 9),(some (41,false))⟩,⟨some 43,.load none (.t 42),(some (41,false))⟩,⟨some 44,.faddr 3 (.t 10),(some (41,false))⟩,⟨some 45,.load none (.t 44),(some (41,false))⟩,⟨some 46,.call (.c (.fn (f_ref04_same N) [] [])) [(.t 43),(.t 45)],(some (41,false))⟩,⟨some 47,.un .not (.t 46),(some (41,false))⟩,⟨some 48,.pick (.t 41) (.c (.lit (.bool true))) (.t 47),none⟩,⟨some 49,.mov (.t 48),none⟩,⟨some 50,.faddr 4 (.t 9),(some (49,false))⟩,⟨some 51,.load none (.t 50),(some (49,false))⟩,⟨some 52,.len (.t 51),(some (49,false))⟩,⟨some 53,.faddr 4 (.t 10),(some (49,false))⟩,⟨some 54,.load none (.t 53),(some (49,false))⟩,⟨some 55,.len (.t 54),(some (49,false))⟩,⟨some 56,.eq true .pint (.t 52) (.t 55),(some (49,false))⟩,⟨some 57,.pick (.t 49) (.c (.lit (.bool true))) (.t 56),none⟩]) (
 .cond (.t 57) (
 .seq (
 .ops [⟨some 8,.mov (.c (.lit (.bool false))),none⟩]) (
 .ret)) (
 .skip))) (
 .seq (
 .seq (
 .ops [⟨some 58,.faddr 4 (.t 9),none⟩,⟨some 59,.load none (.t 58),none⟩,⟨some 60,.len (.t 59),none⟩,⟨some 61,.mov (.c (.lit (.int .i64 0))),none⟩]) (
 .block 0 (
 .loop (L_ref04_SameType_1 N)))) (K_ref04_SameType_1 N)))),false⟩

def L_ref04_same_1 (N : Nat -> Nat) : AC :=
 .seq (
 .ops [⟨some 14,.bin .lss (.t 13) (.t 12),none⟩]) (
 .seq (
 .cond (.t 14) (
 .skip) (
 .exit 0)) (
 .seq (
 .block 1 (
 .seq (
 .ops [⟨some 15,.mov (.t 13),none⟩,⟨some 5,.mov (.t 15),none⟩]) (
 .seq (
 .dops 6 [⟨some 16,.mov (.t 0),none⟩,⟨some 17,.mov (.t 5),none⟩,⟨some 18,.iaddr 1 (.t 16) (.t 17),none⟩,⟨some 19,.load none (.t 18),none⟩,⟨some 20,.mov (.t 1),none⟩,⟨some 21,.mov (.t 5),none⟩,⟨some 22,.iaddr 1 (.t 20) (.t 21),none⟩,⟨some 23,.load none (.t 22),none⟩,⟨some 24,.eq true .pstr (.t 19) (.t 23),none⟩] [0,0,0,2,0,0,0,2,0] []) (
 .cond (.t 24) (
 .seq (
 .ops [⟨some 4,.mov (.c (.lit (.bool false))),none⟩]) (
 .ret)) (
 .skip))))) (
 .ops [⟨some 25,.bin .add (.t 13) (.c (.lit (.int .i64 1))),none⟩,⟨some 13,.mov (.t 25),none⟩])))
def K_ref04_same_1 (N : Nat -> Nat) : AC :=
 .seq (
 .ops [⟨some 4,.mov (.c (.lit (.bool true))),none⟩]) (
 .ret)
def C_ref04_same (N : Nat -> Nat) : AFunc := ⟨26,[.inl 4],
 .seq (
 .ops [⟨some 4,.mov (.c (.lit (.bool false))),none⟩]) (
 .seq (
 .seq (
 .ops [⟨some 6,.mov (.t 0),none⟩,⟨some 7,.len (.t 6),none⟩,⟨some 8,.mov (.t 1),none⟩,⟨some 9,.len (.t 8),none⟩,⟨some 10,.eq true .pint (.t 7) (.t 9),none⟩]) (
 .cond (.t 10) (
 .seq (
 .ops [⟨some 4,.mov (.c (.lit (.bool false))),none⟩]) (
 .ret)) (
 .skip))) (
 .seq (
 .seq (
 .ops [⟨some 11,.mov (.t 0),none⟩,⟨some 12,.len (.t 11),none⟩,⟨some 13,.mov (.c (.lit (.int .i64 0))),none⟩]) (
 .block 0 (
 .loop (L_ref04_same_1 N)))) (K_ref04_same_1 N))),false⟩
end Go.Proofs.Eng
namespace Go.Proofs.Eng
open Go
def allP (p : Int -> Int -> Bool) (a b : List Int) : Bool := (a.zip b).all fun q => p q.1 q.2
def tyEq (m n : Ty) : Bool := decide (m.kind = n.kind) && decide (m.name = n.name) && decide (m.opn = n.opn) && decide (m.names = n.names) && decide (m.kids.length = n.kids.length)
def sameTyF (a b : List Ty) : Nat -> Int -> Int -> Bool
 | 0,_,_ => true
 | f + 1,i,j => match a[i.toNat]?,b[j.toNat]? with
  | some m,some n => tyEq m n && allP (sameTyF a b f) m.kids n.kids
  | _,_ => true
def sameTy (a b : List Ty) (i j : Int) : Bool := sameTyF a b (i.toNat + 1) i j
theorem allP_congr {p q : Int -> Int -> Bool} : ∀ {a b : List Int},(∀ x ∈ a,∀ y ∈ b,p x y = q x y) -> allP p a b = allP q a b
 | [],_,_ => rfl
 | _ :: _,[],_ => rfl
 | x :: a,y :: b,h => by
  have h1 := h x (by simp) y (by simp)
  have h2 := allP_congr (a := a) (b := b) fun u hu v hv => h u (by simp [hu]) v (by simp [hv])
  unfold allP at h2 ⊢
  simp only [List.zip_cons_cons,List.all_cons,h1,h2]
theorem sameTyF_eq {a b : List Ty} (ha : KidsY a) : ∀ (f g : Nat) (i j : Int),i.toNat < f -> i.toNat < g -> sameTyF a b f i j = sameTyF a b g i j
 | 0,_,i,_,hf,_ => by omega
 | f + 1,0,i,_,_,hg => by omega
 | f + 1,g + 1,i,j,hf,hg => by
  simp only [sameTyF]
  split
  ·rename_i m n hm hn
   congr 1
   refine allP_congr fun x hx y hy => ?_
   have := ha _ _ hm x hx
   exact sameTyF_eq ha f g x y (by omega) (by omega)
  ·rfl
theorem sameTy_eq {a b : List Ty} (ha : KidsY a) {i j : Nat} {m n : Ty} (hm : a[i]? = some m) (hn : b[j]? = some n) : sameTy a b i j = (tyEq m n && allP (sameTy a b) m.kids n.kids) := by
 show (match a[(i : Int).toNat]?,b[(j : Int).toNat]? with | some m,some n => tyEq m n && allP (sameTyF a b (i : Int).toNat) m.kids n.kids | _,_ => true) = _
 rw [Int.toNat_natCast,Int.toNat_natCast,hm,hn]
 simp only
 congr 1
 refine allP_congr fun x hx y hy => ?_
 have := ha _ _ hm x hx
 exact sameTyF_eq ha _ _ x y (by omega) (by omega)
theorem allP_take {p : Int -> Int -> Bool} {a b : List Int} {i : Nat} (h1 : i < a.length) (h2 : i < b.length) : allP p (a.take (i + 1)) (b.take (i + 1)) = (allP p (a.take i) (b.take i) && p a[i] b[i]) := by
 unfold allP
 rw [List.take_succ_eq_append_getElem h1,List.take_succ_eq_append_getElem h2,List.zip_append (by simp; omega),List.all_append]
 simp
theorem allP_false {p : Int -> Int -> Bool} {a b : List Int} {i : Nat} (h1 : i < a.length) (h2 : i < b.length) (h : p a[i] b[i] = false) : allP p a b = false := by
 unfold allP
 rw [Bool.eq_false_iff]
 intro hh
 have := List.all_eq_true.1 hh (a[i],b[i]) (List.mem_of_getElem (i := i) (h := by simp; omega) (by simp))
 simp only [h] at this
 cases this
section
variable {Γ : Sums} {A : Tab} {N : Nat -> Nat}
theorem take_ne {α : Type} {a b : List α} {i : Nat} (ha : i < a.length) (hb : i < b.length) (h : a[i] ≠ b[i]) : a ≠ b := by
 rintro rfl; exact h rfl
theorem sliceEq_gen (h : Has Γ A (f_slices_Equal_sl_string_string N) (C_slices_Equal_sl_string_string N)) {H : Hp} {x y : AV} {a b : List (List UInt8)} (hx : VS H x a) (hy : VS H y b) (ha : a.length < 2 ^ 60) : (lim Γ A).call (f_slices_Equal_sl_string_string N) [x,y] H = some (avBool (decide (a = b)),none) := by
 have lx := VS.len hx
 have ly := VS.len hy
 apply h.call (by rfl)
 by_cases hl : a.length = b.length
 ·have hl' : (a.length : Int) = b.length := by omega
  simp [C_slices_Equal_sl_string_string,lx,ly,hl,settle,keeps]
  refine wp_round (n := b.length) (fun m ρ H' => ∃ i : Nat,ρ 0 = x /\ ρ 1 = y /\ ρ 12 = avInt .i64 (b.length : Nat) /\ ρ 13 = avInt .i64 (i : Nat) /\ i <= b.length /\ H' = { l := H.l,d := none } /\ a.take i = b.take i /\ m = b.length - i) ⟨0,rfl,rfl,rfl,rfl,by omega,rfl,by simp,rfl⟩ ?_
  rintro m ρ H' ⟨i,r0,r1,r12,r13,hi,rfl,ht,rfl⟩
  by_cases hlt : i < b.length
  ·have hlt' : (i : Int) < b.length := by omega
   have hla : i < a.length := by omega
   obtain ⟨p,p1,p2⟩ := (hx.dd none).at' (k := .i64) (i := (i : Int)) (e := avStr a[i]) (by omega) (by simp [hla]) rfl rfl rfl
   obtain ⟨q,q1,q2⟩ := (hy.dd none).at' (k := .i64) (i := (i : Int)) (e := avStr b[i]) (by omega) (by simp [hlt]) rfl rfl rfl
   have hw : IntKind.wrap .i64 ((i : Int) + 1) = ((i + 1 : Nat) : Int) := by rw [wrap64 (by omega) (by omega)]; omega
   have hs1 : a.take (i + 1) = a.take i ++ [a[i]] := List.take_succ_eq_append_getElem hla
   have hs2 : b.take (i + 1) = b.take i ++ [b[i]] := List.take_succ_eq_append_getElem hlt
   by_cases he : a[i] = b[i]
   ·simp [L_slices_Equal_sl_string_string_1,r0,r1,r12,r13,hlt',p1,p2,q1,q2,hw,he,-Int.natCast_add]
    exact ⟨b.length - (i + 1),by omega,i + 1,rfl,by omega,by rw [hs1,hs2,ht,he],rfl⟩
   ·have hne : ¬ a = b := take_ne hla hlt he
    simp [L_slices_Equal_sl_string_string_1,r0,r1,r12,r13,hlt',p1,p2,q1,q2,hw,he,hne,settle,keeps,-Int.natCast_add]
  ·have hlt' : ¬ (i : Int) < b.length := by omega
   have hab : a = b := by
    rw [List.take_of_length_le (by omega),List.take_of_length_le (by omega)] at ht; exact ht
   simp [L_slices_Equal_sl_string_string_1,K_slices_Equal_sl_string_string_1,r0,r1,r12,r13,hlt',hab,settle,keeps]
 ·have hl' : ¬ (a.length : Int) = b.length := by omega
  have hne : ¬ a = b := fun e => hl (by rw [e])
  simp [C_slices_Equal_sl_string_string,lx,ly,hl,hl',hne,settle,keeps]
end
end Go.Proofs.Eng
namespace Go.Proofs.Eng
open Go
section
variable {Γ : Sums} {A : Tab} {N : Nat -> Nat}
set_option maxHeartbeats 2000000 in
theorem two_types_gen (h : TwoC Γ A N) {a1 b1 c1 a2 b2 c2 : AV} {ta tb : List Ty} (ho : a1.one = true /\ c1.one = true /\ a2.one = true /\ c2.one = true) (ok : ∀ n ∈ ta,n.ok) (hk : KidsY ta) (hk2 : KidsY tb) : ∀ (f i j : Nat) (H : Hp),i < f -> i < ta.length -> j < tb.length -> RowR TyR 6 H b1 ta -> RowR TyR 6 H b2 tb ->
  (lim Γ A).call (f_tree_two_types N) [.agg [a1,b1,c1,a2,b2,c2],avInt .i64 (i : Nat),avInt .i64 (j : Nat)] H = some (avBool (sameTy ta tb i j),none)
 | 0,i,j,H,hf,_,_,_,_ => by omega
 | f + 1,i,j,H,hf,hi,hj,h1,h2 => by
  obtain ⟨o1,o2,o3,o4⟩ := ho
  obtain ⟨xs,x1,x2,x3⟩ := id h1
  obtain ⟨ys,y1,y2,y3⟩ := id h2
  obtain ⟨m,hm⟩ : ∃ m,ta[i]? = some m := ⟨_,List.getElem?_eq_getElem hi⟩
  obtain ⟨n,hn⟩ : ∃ n,tb[j]? = some n := ⟨_,List.getElem?_eq_getElem hj⟩
  have okn := ok m (List.mem_of_getElem? hm)
  obtain ⟨na,nb,e1,va,vb⟩ := x3 i xs[i] m (List.getElem?_eq_getElem (by omega)) hm
  obtain ⟨ma,mb,e2,wa,wb⟩ := y3 j ys[j] n (List.getElem?_eq_getElem (by omega)) hn
  have hx : xs[i]? = some (tyV m na nb) := by rw [List.getElem?_eq_getElem (by omega),e1]
  have hy : ys[j]? = some (tyV n ma mb) := by rw [List.getElem?_eq_getElem (by omega),e2]
  have hse := sameTy_eq hk hm hn
  have pa := va.one
  have pb := vb.one
  have qa := wa.one
  have qb := wb.one
  have u1 := x1.one
  have u2 := y1.one
  obtain ⟨Hb,hHb⟩ : ∃ Hb,Hb = halloc { l := H.l,d := none } (.cells [a1,b1,c1,a2,b2,c2] (t_tree_two N)) := ⟨_,rfl⟩
  have kb : Keep H Hb := by rw [hHb]; exact keep_box H none _
  have hbox : hget Hb H.l.length = some (.cells [a1,b1,c1,a2,b2,c2] (t_tree_two N)) := by subst hHb; simp
  have hHb' := hHb.symm
  have hlb : Hb.l.length = H.l.length + 1 := by subst hHb; simp
  obtain ⟨p,p1,p2⟩ := (kb.vw x1).ats (k := .i64) (ys := [avInt .i64 m.kind,avInt .i64 m.pos,avStr m.name,na,nb,avBool m.opn]) hx rfl (by simp [pa,pb])
  obtain ⟨q,q1,q2⟩ := (kb.vw y1).ats (k := .i64) (ys := [avInt .i64 n.kind,avInt .i64 n.pos,avStr n.name,ma,mb,avBool n.opn]) hy rfl (by simp [qa,qb])
  have np : ¬ Hb.l.length ∈ ridOf p := fun hm => Nat.lt_irrefl _ (rid_lt p2 _ hm)
  have nq : ¬ Hb.l.length ∈ ridOf q := fun hm => Nat.lt_irrefl _ (rid_lt q2 _ hm)
  simp only [ridOf] at np nq
  have nb0 : ¬ Hb.l.length = H.l.length := by omega
  obtain ⟨cz,hcz⟩ : ∃ cz,cz = AObj.cells [.lit (.int .i64 0),.lit (.int .i64 0),.lit (.string (mkS [])),.lit (.slice none 0 0),.lit (.slice none 0 0),.lit (.bool false)] (t_api_TypeNode N) := ⟨_,rfl⟩
  obtain ⟨cm,hcm⟩ : ∃ cm,cm = AObj.cells [avInt .i64 m.kind,avInt .i64 m.pos,avStr m.name,na,nb,avBool m.opn] (t_api_TypeNode N) := ⟨_,rfl⟩
  obtain ⟨cn,hcn⟩ : ∃ cn,cn = AObj.cells [avInt .i64 n.kind,avInt .i64 n.pos,avStr n.name,ma,mb,avBool n.opn] (t_api_TypeNode N) := ⟨_,rfl⟩
  obtain ⟨H3,hH3⟩ : ∃ H3,H3 = hset (hset (halloc (halloc Hb cz) cz) Hb.l.length (some cm)) (Hb.l.length + 1) (some cn) := ⟨_,rfl⟩
  have hM0 : Mut { l := H.l,d := none } Hb [] := by rw [hHb]; exact (Mut.refl _ _).alloc _
  have hM3 : Mut { l := H.l,d := none } H3 [] := by
   rw [hH3]
   exact (((hM0.alloc _).alloc _).set (.inr (by simp only [hlb]; omega))).set (.inr (by simp only [hlb]; omega))
  have k3 : Keep H H3 := fun id hid => hM3.get hid (by simp)
  have f1 : hget H3 H.l.length = some (.cells [a1,b1,c1,a2,b2,c2] (t_tree_two N)) := by
   rw [hH3,hget_hset,if_neg (by omega),hget_hset,if_neg (by omega),hget_halloc,if_neg (by simp; omega),hget_halloc,if_neg (by omega)]
   exact hbox
  have f2 : hget H3 Hb.l.length = some cm := by
   rw [hH3,hget_hset,if_neg (by omega),hget_hset,if_pos rfl]
   simp
  have f3 : hget H3 (Hb.l.length + 1) = some cn := by
   rw [hH3,hget_hset,if_pos rfl]
   simp
  have hfin : ∀ b,settle H (avBool b) H3 = (avBool b,none) := fun b => settle_keeps (H := H) (H' := H3) (hM3.keeps rfl) (by rfl)
  have ee := sliceEq_gen h.equal (k3.vw va) (k3.vw wa) (by have := okn.2.2.1; omega)
  have ln := VI.len vb
  have lm := VI.len wb
  have hkl := okn.2.2.2
  have hH3' := hH3.symm
  rw [hcz,hcm,hcn] at hH3'
  rw [hcm] at f2
  rw [hcn] at f3
  rw [hse]
  apply h.types.call (by rfl)
  by_cases hc : tyEq m n = true
  ·have hc' := hc
   unfold tyEq at hc'
   simp only [Bool.and_eq_true,decide_eq_true_eq] at hc'
   obtain ⟨⟨⟨⟨d1,d2⟩,d3⟩,d4⟩,d5⟩ := hc'
   have d5' : (m.kids.length : Int) = n.kids.length := by omega
   simp [C_tree_two_types,o1,o2,o3,o4,u1,u2,hHb',hbox,loadC,p1,p2,q1,q2,pa,pb,qa,qb,np,nq,nb0,hH3',ee,f2,f3,ln,lm,eq_true d1,eq_true d2,eq_true d3,eq_true d4,eq_true d5,eq_true d5',hc,-halloc_d,-hset_d]
   refine wp_round (n := m.kids.length) (fun k ρ H' => ∃ x : Nat,ρ 3 = .ptr H.l.length 0 /\ ρ 7 = .ptr Hb.l.length 0 /\ ρ 8 = .ptr (Hb.l.length + 1) 0 /\ ρ 60 = avInt .i64 (m.kids.length : Nat) /\ ρ 61 = avInt .i64 (x : Nat) /\ x <= m.kids.length /\ H' = H3 /\ allP (sameTy ta tb) (m.kids.take x) (n.kids.take x) = true /\ k = m.kids.length - x) ⟨0,rfl,rfl,rfl,rfl,rfl,by omega,rfl,rfl,rfl⟩ ?_
   rintro k ρ H' ⟨x,r3,r7,r8,r60,r61,hx',rfl,hal,rfl⟩
   by_cases hlm : x < m.kids.length
   ·have hlt' : (x : Int) < m.kids.length := by omega
    have hlt : x < n.kids.length := by omega
    obtain ⟨k0,k1⟩ := hk i m hm m.kids[x] (List.getElem_mem hlm)
    obtain ⟨l0,l1⟩ := hk2 j n hn n.kids[x] (List.getElem_mem hlt)
    have hat := allP_take (p := sameTy ta tb) hlm hlt
    have haf := allP_false (p := sameTy ta tb) hlm hlt
    obtain ⟨p',t1,t2⟩ := (k3.vw vb).at' (k := .i64) (i := (x : Int)) (e := avInt .i64 m.kids[x]) (by omega) (by simp [hlm]) rfl rfl rfl
    obtain ⟨q',s1,s2⟩ := (k3.vw wb).at' (k := .i64) (i := (x : Int)) (e := avInt .i64 n.kids[x]) (by omega) (by simp [hlt]) rfl rfl rfl
    generalize m.kids[x] = km at *
    generalize n.kids[x] = kn at *
    have ih := two_types_gen h ⟨o1,o2,o3,o4⟩ ok hk hk2 f km.toNat kn.toNat H' (by omega) (by omega) (by omega) (k3.row (fun _ _ => k3.ty) h1) (k3.row (fun _ _ => k3.ty) h2)
    rw [Int.toNat_of_nonneg k0,Int.toNat_of_nonneg l0] at ih
    have hw : IntKind.wrap .i64 ((x : Int) + 1) = ((x + 1 : Nat) : Int) := by rw [wrap64 (by omega) (by omega)]; omega
    rcases hs : sameTy ta tb km kn with _ | _
    ·rw [hs] at ih
     simp [L_tree_two_types_1,r3,r7,r8,r60,r61,hlt',f1,f2,f3,t1,t2,s1,s2,o1,o2,o3,o4,u1,u2,loadC,ih,hw,haf hs,hfin,-Int.natCast_add]
    ·rw [hs] at ih hat
     simp [L_tree_two_types_1,r3,r7,r8,r60,r61,hlt',f1,f2,f3,t1,t2,s1,s2,o1,o2,o3,o4,u1,u2,loadC,ih,hw,-Int.natCast_add]
     exact ⟨m.kids.length - (x + 1),by omega,x + 1,rfl,by omega,by rw [hat,hal]; rfl,rfl⟩
   ·have hlt' : ¬ (x : Int) < m.kids.length := by omega
    rw [List.take_of_length_le (by omega),List.take_of_length_le (by omega)] at hal
    simp [L_tree_two_types_1,K_tree_two_types_1,r3,r7,r8,r60,r61,hlt',hfin,hal]
  ·have hcf : tyEq m n = false := by simpa using hc
   by_cases d1 : m.kind = n.kind
   ·by_cases d2 : m.name = n.name
    ·by_cases d3 : m.opn = n.opn
     ·by_cases d4 : m.names = n.names
      ·have d5 : ¬ m.kids.length = n.kids.length := fun d5 => hc (by unfold tyEq; simp [d1,d2,d3,d4,d5])
       have d5' : ¬ (m.kids.length : Int) = n.kids.length := by omega
       simp [C_tree_two_types,o1,o2,o3,o4,u1,u2,hHb',hbox,loadC,p1,p2,q1,q2,pa,pb,qa,qb,np,nq,nb0,hH3',ee,f2,f3,ln,lm,eq_true d1,eq_true d2,eq_true d3,eq_true d4,d5,d5',hcf,hfin,-halloc_d,-hset_d]
      ·simp [C_tree_two_types,o1,o2,o3,o4,u1,u2,hHb',hbox,loadC,p1,p2,q1,q2,pa,pb,qa,qb,np,nq,nb0,hH3',ee,f2,f3,ln,lm,eq_true d1,eq_true d2,eq_true d3,d4,hcf,hfin,-halloc_d,-hset_d]
     ·simp [C_tree_two_types,o1,o2,o3,o4,u1,u2,hHb',hbox,loadC,p1,p2,q1,q2,pa,pb,qa,qb,np,nq,nb0,hH3',ee,f2,f3,ln,lm,eq_true d1,eq_true d2,d3,hcf,hfin,-halloc_d,-hset_d]
    ·simp [C_tree_two_types,o1,o2,o3,o4,u1,u2,hHb',hbox,loadC,p1,p2,q1,q2,pa,pb,qa,qb,np,nq,nb0,hH3',ee,f2,f3,ln,lm,eq_true d1,d2,hcf,hfin,-halloc_d,-hset_d]
   ·simp [C_tree_two_types,o1,o2,o3,o4,u1,u2,hHb',hbox,loadC,p1,p2,q1,q2,pa,pb,qa,qb,np,nq,nb0,hH3',ee,f2,f3,ln,lm,d1,hcf,hfin,-halloc_d,-hset_d]
end
end Go.Proofs.Eng
namespace Go.Proofs.Eng
open Go
def ndEq (m n : Nd) : Bool := decide (m.kind = n.kind) && decide (m.name = n.name) && decide (m.int = n.int) && decide (m.bits = n.bits) && decide (m.names = n.names) && decide (m.kids.length = n.kids.length) && decide (m.types.length = n.types.length)
def sameNdF (a b : Tr) : Nat -> Int -> Int -> Bool
 | 0,_,_ => true
 | f + 1,i,j => match a.nodes[i.toNat]?,b.nodes[j.toNat]? with
  | some m,some n => ndEq m n && allP (sameTy a.types b.types) m.types n.types && allP (sameNdF a b f) m.kids n.kids
  | _,_ => true
def sameNd (a b : Tr) (i j : Int) : Bool := sameNdF a b (i.toNat + 1) i j
def KidsM (T : Nat) (l : List Nd) : Prop := ∀ (i : Nat) (n : Nd),l[i]? = some n -> (∀ k ∈ n.kids,0 <= k /\ k < (i : Int)) /\ ∀ k ∈ n.types,0 <= k /\ k < (T : Int)
theorem sameNdF_eq {a b : Tr} {T : Nat} (ha : KidsM T a.nodes) : ∀ (f g : Nat) (i j : Int),i.toNat < f -> i.toNat < g -> sameNdF a b f i j = sameNdF a b g i j
 | 0,_,i,_,hf,_ => by omega
 | f + 1,0,i,_,_,hg => by omega
 | f + 1,g + 1,i,j,hf,hg => by
  simp only [sameNdF]
  split
  ·rename_i m n hm hn
   congr 1
   refine allP_congr fun x hx y hy => ?_
   have := (ha _ _ hm).1 x hx
   exact sameNdF_eq ha f g x y (by omega) (by omega)
  ·rfl
theorem sameNd_eq {a b : Tr} {T : Nat} (ha : KidsM T a.nodes) {i j : Nat} {m n : Nd} (hm : a.nodes[i]? = some m) (hn : b.nodes[j]? = some n) : sameNd a b i j = (ndEq m n && allP (sameTy a.types b.types) m.types n.types && allP (sameNd a b) m.kids n.kids) := by
 show (match a.nodes[(i : Int).toNat]?,b.nodes[(j : Int).toNat]? with | some m,some n => ndEq m n && allP (sameTy a.types b.types) m.types n.types && allP (sameNdF a b (i : Int).toNat) m.kids n.kids | _,_ => true) = _
 rw [Int.toNat_natCast,Int.toNat_natCast,hm,hn]
 simp only
 congr 1
 refine allP_congr fun x hx y hy => ?_
 have := (ha _ _ hm).1 x hx
 exact sameNdF_eq ha _ _ x y (by omega) (by omega)
structure Pair (a b : Tr) : Prop where
 oa : a.ok
 ya : KidsY a.types
 yb : KidsY b.types
 na : KidsM a.types.length a.nodes
 nb : KidsM b.types.length b.nodes
 tl : ∀ m ∈ a.nodes,∀ n ∈ b.nodes,m.kind = n.kind -> m.types.length = n.types.length
section
variable {Γ : Sums} {A : Tab} {N : Nat -> Nat}
set_option maxHeartbeats 4000000 in
theorem two_terms_gen (h : TwoC Γ A N) {a1 b1 c1 a2 b2 c2 : AV} {ta tb : Tr} (ho : c1.one = true /\ c2.one = true) (hp : Pair ta tb) : ∀ (f i j : Nat) (H : Hp),i < f -> i < ta.nodes.length -> j < tb.nodes.length -> RowR NdR 8 H a1 ta.nodes -> RowR NdR 8 H a2 tb.nodes -> RowR TyR 6 H b1 ta.types -> RowR TyR 6 H b2 tb.types ->
  (lim Γ A).call (f_tree_two_terms N) [.agg [a1,b1,c1,a2,b2,c2],avInt .i64 (i : Nat),avInt .i64 (j : Nat)] H = some (avBool (sameNd ta tb i j),none)
 | 0,i,j,H,hf,_,_,_,_,_,_ => by omega
 | f + 1,i,j,H,hf,hi,hj,h1,h2,g1,g2 => by
  obtain ⟨o2,o4⟩ := ho
  have o1 := g1.one
  have o3 := g2.one
  obtain ⟨xs,x1,x2,x3⟩ := id h1
  obtain ⟨ys,y1,y2,y3⟩ := id h2
  obtain ⟨m,hm⟩ : ∃ m,ta.nodes[i]? = some m := ⟨_,List.getElem?_eq_getElem hi⟩
  obtain ⟨n,hn⟩ : ∃ n,tb.nodes[j]? = some n := ⟨_,List.getElem?_eq_getElem hj⟩
  have okn := hp.oa.1 m (List.mem_of_getElem? hm)
  have htl := hp.tl m (List.mem_of_getElem? hm) n (List.mem_of_getElem? hn)
  have hse := sameNd_eq hp.na hm hn
  obtain ⟨na,nb,nc,e1,va,vb,vc⟩ := x3 i xs[i] m (List.getElem?_eq_getElem (by omega)) hm
  obtain ⟨ma,mb,mc,e2,wa,wb,wc⟩ := y3 j ys[j] n (List.getElem?_eq_getElem (by omega)) hn
  have hx : xs[i]? = some (ndV m na nb nc) := by rw [List.getElem?_eq_getElem (by omega),e1]
  have hy : ys[j]? = some (ndV n ma mb mc) := by rw [List.getElem?_eq_getElem (by omega),e2]
  have pa := va.one
  have pb := vb.one
  have pc := vc.one
  have qa := wa.one
  have qb := wb.one
  have qc := wc.one
  have u1 := x1.one
  have u2 := y1.one
  obtain ⟨Hb,hHb⟩ : ∃ Hb,Hb = halloc { l := H.l,d := none } (.cells [a1,b1,c1,a2,b2,c2] (t_tree_two N)) := ⟨_,rfl⟩
  have kb : Keep H Hb := by rw [hHb]; exact keep_box H none _
  have hbox : hget Hb H.l.length = some (.cells [a1,b1,c1,a2,b2,c2] (t_tree_two N)) := by subst hHb; simp
  have hHb' := hHb.symm
  have hlb : Hb.l.length = H.l.length + 1 := by subst hHb; simp
  obtain ⟨p,p1,p2⟩ := (kb.vw x1).ats (k := .i64) (ys := [avInt .i64 m.kind,avInt .i64 m.pos,avStr m.name,avInt .i64 m.int,avInt .u64 m.bits,na,nb,nc]) hx rfl (by simp [pa,pb,pc])
  obtain ⟨q,q1,q2⟩ := (kb.vw y1).ats (k := .i64) (ys := [avInt .i64 n.kind,avInt .i64 n.pos,avStr n.name,avInt .i64 n.int,avInt .u64 n.bits,ma,mb,mc]) hy rfl (by simp [qa,qb,qc])
  have np : ¬ Hb.l.length ∈ ridOf p := fun hm => Nat.lt_irrefl _ (rid_lt p2 _ hm)
  have nq : ¬ Hb.l.length ∈ ridOf q := fun hm => Nat.lt_irrefl _ (rid_lt q2 _ hm)
  simp only [ridOf] at np nq
  have nb0 : ¬ Hb.l.length = H.l.length := by omega
  obtain ⟨cz,hcz⟩ : ∃ cz,cz = AObj.cells [.lit (.int .i64 0),.lit (.int .i64 0),.lit (.string (mkS [])),.lit (.int .i64 0),.lit (.int .u64 0),.lit (.slice none 0 0),.lit (.slice none 0 0),.lit (.slice none 0 0)] (t_api_Node N) := ⟨_,rfl⟩
  obtain ⟨cm,hcm⟩ : ∃ cm,cm = AObj.cells [avInt .i64 m.kind,avInt .i64 m.pos,avStr m.name,avInt .i64 m.int,avInt .u64 m.bits,na,nb,nc] (t_api_Node N) := ⟨_,rfl⟩
  obtain ⟨cn,hcn⟩ : ∃ cn,cn = AObj.cells [avInt .i64 n.kind,avInt .i64 n.pos,avStr n.name,avInt .i64 n.int,avInt .u64 n.bits,ma,mb,mc] (t_api_Node N) := ⟨_,rfl⟩
  obtain ⟨H3,hH3⟩ : ∃ H3,H3 = hset (hset (halloc (halloc Hb cz) cz) Hb.l.length (some cm)) (Hb.l.length + 1) (some cn) := ⟨_,rfl⟩
  have hM0 : Mut { l := H.l,d := none } Hb [] := by rw [hHb]; exact (Mut.refl _ _).alloc _
  have hM3 : Mut { l := H.l,d := none } H3 [] := by
   rw [hH3]
   exact (((hM0.alloc _).alloc _).set (.inr (by simp only [hlb]; omega))).set (.inr (by simp only [hlb]; omega))
  have k3 : Keep H H3 := fun id hid => hM3.get hid (by simp)
  have f1 : hget H3 H.l.length = some (.cells [a1,b1,c1,a2,b2,c2] (t_tree_two N)) := by
   rw [hH3,hget_hset,if_neg (by omega),hget_hset,if_neg (by omega),hget_halloc,if_neg (by simp; omega),hget_halloc,if_neg (by omega)]
   exact hbox
  have f2 : hget H3 Hb.l.length = some cm := by
   rw [hH3,hget_hset,if_neg (by omega),hget_hset,if_pos rfl]
   simp
  have f3 : hget H3 (Hb.l.length + 1) = some cn := by
   rw [hH3,hget_hset,if_pos rfl]
   simp
  have hfin : ∀ b,settle H (avBool b) H3 = (avBool b,none) := fun b => settle_keeps (H := H) (H' := H3) (hM3.keeps rfl) (by rfl)
  have ee := sliceEq_gen h.equal (k3.vw va) (k3.vw wa) (by have := okn.2.2.1; omega)
  have ln := VI.len vb
  have lm := VI.len wb
  have lc := VI.len vc
  have hkl := okn.2.2.2.1
  have hkt := okn.2.2.2.2
  have hH3' := hH3.symm
  rw [hcz,hcm,hcn] at hH3'
  rw [hcm] at f2
  rw [hcn] at f3
  rw [hse]
  apply h.terms.call (by rfl)
  by_cases hc : ndEq m n = true
  ·have hc' := hc
   unfold ndEq at hc'
   simp only [Bool.and_eq_true,decide_eq_true_eq] at hc'
   obtain ⟨⟨⟨⟨⟨⟨d1,d2⟩,d3⟩,d4⟩,d5⟩,d6⟩,d7⟩ := hc'
   have d6' : (m.kids.length : Int) = n.kids.length := by omega
   simp [C_tree_two_terms,o1,o2,o3,o4,u1,u2,hHb',hbox,loadC,p1,p2,q1,q2,pa,pb,pc,qa,qb,qc,np,nq,nb0,hH3',ee,f2,f3,ln,lm,lc,eq_true d1,eq_true d2,eq_true d3,eq_true d4,eq_true d5,eq_true d6,eq_true d6',hc,-halloc_d,-hset_d]
   refine wp_round (n := m.types.length) (fun k ρ H' => ∃ x : Nat,ρ 3 = .ptr H.l.length 0 /\ ρ 7 = .ptr Hb.l.length 0 /\ ρ 8 = .ptr (Hb.l.length + 1) 0 /\ ρ 68 = avInt .i64 (m.types.length : Nat) /\ ρ 69 = avInt .i64 (x : Nat) /\ x <= m.types.length /\ H' = H3 /\ allP (sameTy ta.types tb.types) (m.types.take x) (n.types.take x) = true /\ k = m.types.length - x) ⟨0,rfl,rfl,rfl,rfl,rfl,by omega,rfl,rfl,rfl⟩ ?_
   rintro k ρ H' ⟨x,r3,r7,r8,r68,r69,hx',rfl,hal,rfl⟩
   by_cases hlm : x < m.types.length
   ·have hlt' : (x : Int) < m.types.length := by omega
    have hlt : x < n.types.length := by omega
    obtain ⟨k0,k1⟩ := (hp.na i m hm).2 m.types[x] (List.getElem_mem hlm)
    obtain ⟨l0,l1⟩ := (hp.nb j n hn).2 n.types[x] (List.getElem_mem hlt)
    have hat := allP_take (p := sameTy ta.types tb.types) hlm hlt
    have haf := allP_false (p := sameTy ta.types tb.types) hlm hlt
    obtain ⟨p',t1,t2⟩ := (k3.vw vc).at' (k := .i64) (i := (x : Int)) (e := avInt .i64 m.types[x]) (by omega) (by simp [hlm]) rfl rfl rfl
    obtain ⟨q',s1,s2⟩ := (k3.vw wc).at' (k := .i64) (i := (x : Int)) (e := avInt .i64 n.types[x]) (by omega) (by simp [hlt]) rfl rfl rfl
    generalize m.types[x] = km at *
    generalize n.types[x] = kn at *
    have ih := two_types_gen h ⟨u1,o2,u2,o4⟩ hp.oa.2.1 hp.ya hp.yb (km.toNat + 1) km.toNat kn.toNat H' (by omega) (by omega) (by omega) (k3.row (fun _ _ => k3.ty) g1) (k3.row (fun _ _ => k3.ty) g2)
    rw [Int.toNat_of_nonneg k0,Int.toNat_of_nonneg l0] at ih
    have hw : IntKind.wrap .i64 ((x : Int) + 1) = ((x + 1 : Nat) : Int) := by rw [wrap64 (by omega) (by omega)]; omega
    rcases hs : sameTy ta.types tb.types km kn with _ | _
    ·rw [hs] at ih
     simp [L_tree_two_terms_1,r3,r7,r8,r68,r69,hlt',f1,f2,f3,t1,t2,s1,s2,o1,o2,o3,o4,u1,u2,loadC,ih,hw,haf hs,hfin,-Int.natCast_add]
    ·rw [hs] at ih hat
     simp [L_tree_two_terms_1,r3,r7,r8,r68,r69,hlt',f1,f2,f3,t1,t2,s1,s2,o1,o2,o3,o4,u1,u2,loadC,ih,hw,-Int.natCast_add]
     exact ⟨m.types.length - (x + 1),by omega,x + 1,rfl,by omega,by rw [hat,hal]; rfl,rfl⟩
   ·have hlt' : ¬ (x : Int) < m.types.length := by omega
    rw [List.take_of_length_le (by omega),List.take_of_length_le (by omega)] at hal
    simp [L_tree_two_terms_1,K_tree_two_terms_1,r3,r7,r8,r68,r69,hlt',f2,ln,loadC]
    refine wp_round (n := m.kids.length) (fun k ρ H'' => ∃ x : Nat,ρ 3 = .ptr H.l.length 0 /\ ρ 7 = .ptr Hb.l.length 0 /\ ρ 8 = .ptr (Hb.l.length + 1) 0 /\ ρ 88 = avInt .i64 (m.kids.length : Nat) /\ ρ 89 = avInt .i64 (x : Nat) /\ x <= m.kids.length /\ H'' = H' /\ allP (sameNd ta tb) (m.kids.take x) (n.kids.take x) = true /\ k = m.kids.length - x) ⟨0,r3,r7,r8,rfl,rfl,by omega,rfl,rfl,rfl⟩ ?_
    rintro k ρ2 H'' ⟨x2,r3,r7,r8,r88,r89,hx2,rfl,hal2,rfl⟩
    by_cases hlm2 : x2 < m.kids.length
    ·have hlt2' : (x2 : Int) < m.kids.length := by omega
     have hlt2 : x2 < n.kids.length := by omega
     obtain ⟨k0,k1⟩ := (hp.na i m hm).1 m.kids[x2] (List.getElem_mem hlm2)
     obtain ⟨l0,l1⟩ := (hp.nb j n hn).1 n.kids[x2] (List.getElem_mem hlt2)
     have hat := allP_take (p := sameNd ta tb) hlm2 hlt2
     have haf := allP_false (p := sameNd ta tb) hlm2 hlt2
     obtain ⟨p',t1,t2⟩ := (k3.vw vb).at' (k := .i64) (i := (x2 : Int)) (e := avInt .i64 m.kids[x2]) (by omega) (by simp [hlm2]) rfl rfl rfl
     obtain ⟨q',s1,s2⟩ := (k3.vw wb).at' (k := .i64) (i := (x2 : Int)) (e := avInt .i64 n.kids[x2]) (by omega) (by simp [hlt2]) rfl rfl rfl
     generalize m.kids[x2] = km at *
     generalize n.kids[x2] = kn at *
     have ih := two_terms_gen h ⟨o2,o4⟩ hp f km.toNat kn.toNat H'' (by omega) (by omega) (by omega) (k3.row (fun _ _ => k3.nd) h1) (k3.row (fun _ _ => k3.nd) h2) (k3.row (fun _ _ => k3.ty) g1) (k3.row (fun _ _ => k3.ty) g2)
     rw [Int.toNat_of_nonneg k0,Int.toNat_of_nonneg l0] at ih
     have hw : IntKind.wrap .i64 ((x2 : Int) + 1) = ((x2 + 1 : Nat) : Int) := by rw [wrap64 (by omega) (by omega)]; omega
     rcases hs : sameNd ta tb km kn with _ | _
     ·rw [hs] at ih
      simp [L_tree_two_terms_2,r3,r7,r8,r88,r89,hlt2',f1,f2,f3,t1,t2,s1,s2,o1,o2,o3,o4,u1,u2,loadC,ih,hw,haf hs,hfin,-Int.natCast_add]
     ·rw [hs] at ih hat
      simp [L_tree_two_terms_2,r3,r7,r8,r88,r89,hlt2',f1,f2,f3,t1,t2,s1,s2,o1,o2,o3,o4,u1,u2,loadC,ih,hw,-Int.natCast_add]
      exact ⟨m.kids.length - (x2 + 1),by omega,x2 + 1,rfl,by omega,by rw [hat,hal2]; rfl,rfl⟩
    ·have hlt2' : ¬ (x2 : Int) < m.kids.length := by omega
     rw [List.take_of_length_le (by omega),List.take_of_length_le (by omega)] at hal2
     simp [L_tree_two_terms_2,K_tree_two_terms_2,r3,r7,r8,r88,r89,hlt2',hfin,hal,hal2]
  ·have hcf : ndEq m n = false := by simpa using hc
   by_cases d1 : ¬ m.kind = n.kind
   ·simp [C_tree_two_terms,o1,o2,o3,o4,u1,u2,hHb',hbox,loadC,p1,p2,q1,q2,pa,pb,pc,qa,qb,qc,np,nq,nb0,hH3',ee,f2,f3,ln,lm,lc,d1,hcf,hfin,-halloc_d,-hset_d]
   replace d1 := Classical.not_not.1 d1
   by_cases d2 : ¬ m.name = n.name
   ·simp [C_tree_two_terms,o1,o2,o3,o4,u1,u2,hHb',hbox,loadC,p1,p2,q1,q2,pa,pb,pc,qa,qb,qc,np,nq,nb0,hH3',ee,f2,f3,ln,lm,lc,eq_true d1,d2,hcf,hfin,-halloc_d,-hset_d]
   replace d2 := Classical.not_not.1 d2
   by_cases d3 : ¬ m.int = n.int
   ·simp [C_tree_two_terms,o1,o2,o3,o4,u1,u2,hHb',hbox,loadC,p1,p2,q1,q2,pa,pb,pc,qa,qb,qc,np,nq,nb0,hH3',ee,f2,f3,ln,lm,lc,eq_true d1,eq_true d2,d3,hcf,hfin,-halloc_d,-hset_d]
   replace d3 := Classical.not_not.1 d3
   by_cases d4 : ¬ m.bits = n.bits
   ·simp [C_tree_two_terms,o1,o2,o3,o4,u1,u2,hHb',hbox,loadC,p1,p2,q1,q2,pa,pb,pc,qa,qb,qc,np,nq,nb0,hH3',ee,f2,f3,ln,lm,lc,eq_true d1,eq_true d2,eq_true d3,d4,hcf,hfin,-halloc_d,-hset_d]
   replace d4 := Classical.not_not.1 d4
   by_cases d5 : ¬ m.names = n.names
   ·simp [C_tree_two_terms,o1,o2,o3,o4,u1,u2,hHb',hbox,loadC,p1,p2,q1,q2,pa,pb,pc,qa,qb,qc,np,nq,nb0,hH3',ee,f2,f3,ln,lm,lc,eq_true d1,eq_true d2,eq_true d3,eq_true d4,d5,hcf,hfin,-halloc_d,-hset_d]
   replace d5 := Classical.not_not.1 d5
   have d6 : ¬ m.kids.length = n.kids.length := fun d6 => hc (by unfold ndEq; simp [d1,d2,d3,d4,d5,d6,htl d1])
   have d6' : ¬ (m.kids.length : Int) = n.kids.length := by omega
   simp [C_tree_two_terms,o1,o2,o3,o4,u1,u2,hHb',hbox,loadC,p1,p2,q1,q2,pa,pb,pc,qa,qb,qc,np,nq,nb0,hH3',ee,f2,f3,ln,lm,lc,eq_true d1,eq_true d2,eq_true d3,eq_true d4,eq_true d5,d6,d6',hcf,hfin,-halloc_d,-hset_d]
end
end Go.Proofs.Eng
namespace Go.Proofs.Eng
open Go
section
variable {Γ : Sums} {A : Tab} {N : Nat -> Nat}
structure RefS (Γ : Sums) (A : Tab) (N : Nat -> Nat) : Prop where
 same : Has Γ A (f_ref04_same N) (C_ref04_same N)
 type : Has Γ A (f_ref04_SameType N) (C_ref04_SameType N)
 term : Has Γ A (f_ref04_SameTerm N) (C_ref04_SameTerm N)
theorem ref04_same_call (h : Has Γ A (f_ref04_same N) (C_ref04_same N)) {H : Hp} {x y : AV} {a b : List (List UInt8)} (hx : VS H x a) (hy : VS H y b) (ha : a.length < 2 ^ 60) : (lim Γ A).call (f_ref04_same N) [x,y] H = some (avBool (decide (a = b)),none) := by
 have lx := VS.len hx
 have ly := VS.len hy
 apply h.call (by rfl)
 by_cases hl : a.length = b.length
 ·have hl' : (a.length : Int) = b.length := by omega
  simp [C_ref04_same,lx,ly,hl,settle,keeps]
  refine wp_round (n := b.length) (fun m ρ H' => ∃ i : Nat,ρ 0 = x /\ ρ 1 = y /\ ρ 12 = avInt .i64 (b.length : Nat) /\ ρ 13 = avInt .i64 (i : Nat) /\ i <= b.length /\ H' = { l := H.l,d := none } /\ a.take i = b.take i /\ m = b.length - i) ⟨0,rfl,rfl,rfl,rfl,by omega,rfl,by simp,rfl⟩ ?_
  rintro m ρ H' ⟨i,r0,r1,r12,r13,hi,rfl,ht,rfl⟩
  by_cases hlt : i < b.length
  ·have hlt' : (i : Int) < b.length := by omega
   have hla : i < a.length := by omega
   obtain ⟨p,p1,p2⟩ := (hx.dd none).at' (k := .i64) (i := (i : Int)) (e := avStr a[i]) (by omega) (by simp [hla]) rfl rfl rfl
   obtain ⟨q,q1,q2⟩ := (hy.dd none).at' (k := .i64) (i := (i : Int)) (e := avStr b[i]) (by omega) (by simp [hlt]) rfl rfl rfl
   have hw : IntKind.wrap .i64 ((i : Int) + 1) = ((i + 1 : Nat) : Int) := by rw [wrap64 (by omega) (by omega)]; omega
   have hs1 : a.take (i + 1) = a.take i ++ [a[i]] := List.take_succ_eq_append_getElem hla
   have hs2 : b.take (i + 1) = b.take i ++ [b[i]] := List.take_succ_eq_append_getElem hlt
   by_cases he : a[i] = b[i]
   ·simp [L_ref04_same_1,r0,r1,r12,r13,hlt',p1,p2,q1,q2,hw,he,-Int.natCast_add]
    exact ⟨b.length - (i + 1),by omega,i + 1,rfl,by omega,by rw [hs1,hs2,ht,he],rfl⟩
   ·have hne : ¬ a = b := take_ne hla hlt he
    simp [L_ref04_same_1,r0,r1,r12,r13,hlt',p1,p2,q1,q2,hw,he,hne,settle,keeps,-Int.natCast_add]
  ·have hlt' : ¬ (i : Int) < b.length := by omega
   have hab : a = b := by
    rw [List.take_of_length_le (by omega),List.take_of_length_le (by omega)] at ht; exact ht
   simp [L_ref04_same_1,K_ref04_same_1,r0,r1,r12,r13,hlt',hab,settle,keeps]
 ·have hl' : ¬ (a.length : Int) = b.length := by omega
  have hne : ¬ a = b := fun e => hl (by rw [e])
  simp [C_ref04_same,lx,ly,hl,hl',hne,settle,keeps]
set_option maxHeartbeats 2000000 in
theorem ref04_SameType_call (h : RefS Γ A N) {a1 b1 c1 a2 b2 c2 : AV} {ta tb : List Ty} (ho : a1.one = true /\ c1.one = true /\ a2.one = true /\ c2.one = true) (ok : ∀ n ∈ ta,n.ok) (hk : KidsY ta) (hk2 : KidsY tb) : ∀ (f i j : Nat) (H : Hp),i < f -> i < ta.length -> j < tb.length -> RowR TyR 6 H b1 ta -> RowR TyR 6 H b2 tb ->
  (lim Γ A).call (f_ref04_SameType N) [.agg [a1,b1,c1],avInt .i64 (i : Nat),.agg [a2,b2,c2],avInt .i64 (j : Nat)] H = some (avBool (sameTy ta tb i j),none)
 | 0,i,j,H,hf,_,_,_,_ => by omega
 | f + 1,i,j,H,hf,hi,hj,h1,h2 => by
  obtain ⟨o1,o2,o3,o4⟩ := ho
  obtain ⟨xs,x1,x2,x3⟩ := id h1
  obtain ⟨ys,y1,y2,y3⟩ := id h2
  obtain ⟨m,hm⟩ : ∃ m,ta[i]? = some m := ⟨_,List.getElem?_eq_getElem hi⟩
  obtain ⟨n,hn⟩ : ∃ n,tb[j]? = some n := ⟨_,List.getElem?_eq_getElem hj⟩
  have okn := ok m (List.mem_of_getElem? hm)
  obtain ⟨na,nb,e1,va,vb⟩ := x3 i xs[i] m (List.getElem?_eq_getElem (by omega)) hm
  obtain ⟨ma,mb,e2,wa,wb⟩ := y3 j ys[j] n (List.getElem?_eq_getElem (by omega)) hn
  have hx : xs[i]? = some (tyV m na nb) := by rw [List.getElem?_eq_getElem (by omega),e1]
  have hy : ys[j]? = some (tyV n ma mb) := by rw [List.getElem?_eq_getElem (by omega),e2]
  have hse := sameTy_eq hk hm hn
  have pa := va.one
  have pb := vb.one
  have qa := wa.one
  have qb := wb.one
  have u1 := x1.one
  have u2 := y1.one
  obtain ⟨Hb,hHb⟩ : ∃ Hb,Hb = halloc (halloc { l := H.l,d := none } (.cells [a1,b1,c1] (t_api_Tree N))) (.cells [a2,b2,c2] (t_api_Tree N)) := ⟨_,rfl⟩
  have hM0 : Mut { l := H.l,d := none } Hb [] := by rw [hHb]; exact ((Mut.refl _ _).alloc _).alloc _
  have kb : Keep H Hb := fun id hid => hM0.get hid (by simp)
  have hbox : hget Hb H.l.length = some (.cells [a1,b1,c1] (t_api_Tree N)) := by subst hHb; simp
  have hbox2 : hget Hb (H.l.length + 1) = some (.cells [a2,b2,c2] (t_api_Tree N)) := by subst hHb; simp
  have hHb' := hHb.symm
  have hlb : Hb.l.length = H.l.length + 2 := by subst hHb; simp
  obtain ⟨p,p1,p2⟩ := (kb.vw x1).ats (k := .i64) (ys := [avInt .i64 m.kind,avInt .i64 m.pos,avStr m.name,na,nb,avBool m.opn]) hx rfl (by simp [pa,pb])
  obtain ⟨q,q1,q2⟩ := (kb.vw y1).ats (k := .i64) (ys := [avInt .i64 n.kind,avInt .i64 n.pos,avStr n.name,ma,mb,avBool n.opn]) hy rfl (by simp [qa,qb])
  have np : ¬ Hb.l.length ∈ ridOf p := fun hm => Nat.lt_irrefl _ (rid_lt p2 _ hm)
  have nq : ¬ Hb.l.length ∈ ridOf q := fun hm => Nat.lt_irrefl _ (rid_lt q2 _ hm)
  simp only [ridOf] at np nq
  have nb0 : ¬ Hb.l.length = H.l.length := by omega
  have nb1 : ¬ Hb.l.length = H.l.length + 1 := by omega
  obtain ⟨cz,hcz⟩ : ∃ cz,cz = AObj.cells [.lit (.int .i64 0),.lit (.int .i64 0),.lit (.string (mkS [])),.lit (.slice none 0 0),.lit (.slice none 0 0),.lit (.bool false)] (t_api_TypeNode N) := ⟨_,rfl⟩
  obtain ⟨cm,hcm⟩ : ∃ cm,cm = AObj.cells [avInt .i64 m.kind,avInt .i64 m.pos,avStr m.name,na,nb,avBool m.opn] (t_api_TypeNode N) := ⟨_,rfl⟩
  obtain ⟨cn,hcn⟩ : ∃ cn,cn = AObj.cells [avInt .i64 n.kind,avInt .i64 n.pos,avStr n.name,ma,mb,avBool n.opn] (t_api_TypeNode N) := ⟨_,rfl⟩
  obtain ⟨H3,hH3⟩ : ∃ H3,H3 = hset (hset (halloc (halloc Hb cz) cz) Hb.l.length (some cm)) (Hb.l.length + 1) (some cn) := ⟨_,rfl⟩
  have hM3 : Mut { l := H.l,d := none } H3 [] := by
   rw [hH3]
   exact (((hM0.alloc _).alloc _).set (.inr (by simp only [hlb]; omega))).set (.inr (by simp only [hlb]; omega))
  have k3 : Keep H H3 := fun id hid => hM3.get hid (by simp)
  have f1 : hget H3 H.l.length = some (.cells [a1,b1,c1] (t_api_Tree N)) := by
   rw [hH3,hget_hset,if_neg (by omega),hget_hset,if_neg (by omega),hget_halloc,if_neg (by simp; omega),hget_halloc,if_neg (by omega)]
   exact hbox
  have f0 : hget H3 (H.l.length + 1) = some (.cells [a2,b2,c2] (t_api_Tree N)) := by
   rw [hH3,hget_hset,if_neg (by omega),hget_hset,if_neg (by omega),hget_halloc,if_neg (by simp; omega),hget_halloc,if_neg (by omega)]
   exact hbox2
  have f2 : hget H3 Hb.l.length = some cm := by
   rw [hH3,hget_hset,if_neg (by omega),hget_hset,if_pos rfl]
   simp
  have f3 : hget H3 (Hb.l.length + 1) = some cn := by
   rw [hH3,hget_hset,if_pos rfl]
   simp
  have hfin : ∀ b,settle H (avBool b) H3 = (avBool b,none) := fun b => settle_keeps (H := H) (H' := H3) (hM3.keeps rfl) (by rfl)
  have ee := ref04_same_call h.same (k3.vw va) (k3.vw wa) (by have := okn.2.2.1; omega)
  have ln := VI.len vb
  have lm := VI.len wb
  have hkl := okn.2.2.2
  have hH3' := hH3.symm
  rw [hcz,hcm,hcn] at hH3'
  rw [hcm] at f2
  rw [hcn] at f3
  rw [hse]
  apply h.type.call (by rfl)
  by_cases hc : tyEq m n = true
  ·have hc' := hc
   unfold tyEq at hc'
   simp only [Bool.and_eq_true,decide_eq_true_eq] at hc'
   obtain ⟨⟨⟨⟨d1,d2⟩,d3⟩,d4⟩,d5⟩ := hc'
   have d5' : (m.kids.length : Int) = n.kids.length := by omega
   simp [C_ref04_SameType,o1,o2,o3,o4,u1,u2,hHb',hbox,hbox2,loadC,p1,p2,q1,q2,pa,pb,qa,qb,np,nq,nb0,nb1,hH3',ee,f2,f3,ln,lm,eq_true d1,eq_true d2,eq_true d3,eq_true d4,eq_true d5,eq_true d5',hc,-halloc_d,-hset_d]
   refine wp_round (n := m.kids.length) (fun k ρ H' => ∃ x : Nat,ρ 4 = .ptr H.l.length 0 /\ ρ 6 = .ptr (H.l.length + 1) 0 /\ ρ 9 = .ptr Hb.l.length 0 /\ ρ 10 = .ptr (Hb.l.length + 1) 0 /\ ρ 60 = avInt .i64 (m.kids.length : Nat) /\ ρ 61 = avInt .i64 (x : Nat) /\ x <= m.kids.length /\ H' = H3 /\ allP (sameTy ta tb) (m.kids.take x) (n.kids.take x) = true /\ k = m.kids.length - x) ⟨0,rfl,rfl,rfl,rfl,rfl,rfl,by omega,rfl,rfl,rfl⟩ ?_
   rintro k ρ H' ⟨x,r4,r6,r9,r10,r60,r61,hx',rfl,hal,rfl⟩
   by_cases hlm : x < m.kids.length
   ·have hlt' : (x : Int) < m.kids.length := by omega
    have hlt : x < n.kids.length := by omega
    obtain ⟨k0,k1⟩ := hk i m hm m.kids[x] (List.getElem_mem hlm)
    obtain ⟨l0,l1⟩ := hk2 j n hn n.kids[x] (List.getElem_mem hlt)
    have hat := allP_take (p := sameTy ta tb) hlm hlt
    have haf := allP_false (p := sameTy ta tb) hlm hlt
    obtain ⟨p',t1,t2⟩ := (k3.vw vb).at' (k := .i64) (i := (x : Int)) (e := avInt .i64 m.kids[x]) (by omega) (by simp [hlm]) rfl rfl rfl
    obtain ⟨q',s1,s2⟩ := (k3.vw wb).at' (k := .i64) (i := (x : Int)) (e := avInt .i64 n.kids[x]) (by omega) (by simp [hlt]) rfl rfl rfl
    generalize m.kids[x] = km at *
    generalize n.kids[x] = kn at *
    have ih := ref04_SameType_call h ⟨o1,o2,o3,o4⟩ ok hk hk2 f km.toNat kn.toNat H' (by omega) (by omega) (by omega) (k3.row (fun _ _ => k3.ty) h1) (k3.row (fun _ _ => k3.ty) h2)
    rw [Int.toNat_of_nonneg k0,Int.toNat_of_nonneg l0] at ih
    have hw : IntKind.wrap .i64 ((x : Int) + 1) = ((x + 1 : Nat) : Int) := by rw [wrap64 (by omega) (by omega)]; omega
    rcases hs : sameTy ta tb km kn with _ | _
    ·rw [hs] at ih
     simp [L_ref04_SameType_1,r4,r6,r9,r10,r60,r61,hlt',f0,f1,f2,f3,t1,t2,s1,s2,o1,o2,o3,o4,u1,u2,loadC,ih,hw,haf hs,hfin,-Int.natCast_add]
    ·rw [hs] at ih hat
     simp [L_ref04_SameType_1,r4,r6,r9,r10,r60,r61,hlt',f0,f1,f2,f3,t1,t2,s1,s2,o1,o2,o3,o4,u1,u2,loadC,ih,hw,-Int.natCast_add]
     exact ⟨m.kids.length - (x + 1),by omega,x + 1,rfl,by omega,by rw [hat,hal]; rfl,rfl⟩
   ·have hlt' : ¬ (x : Int) < m.kids.length := by omega
    rw [List.take_of_length_le (by omega),List.take_of_length_le (by omega)] at hal
    simp [L_ref04_SameType_1,K_ref04_SameType_1,r4,r6,r9,r10,r60,r61,hlt',hfin,hal]
  ·have hcf : tyEq m n = false := by simpa using hc
   by_cases d1 : m.kind = n.kind
   ·by_cases d2 : m.name = n.name
    ·by_cases d3 : m.opn = n.opn
     ·by_cases d4 : m.names = n.names
      ·have d5 : ¬ m.kids.length = n.kids.length := fun d5 => hc (by unfold tyEq; simp [d1,d2,d3,d4,d5])
       have d5' : ¬ (m.kids.length : Int) = n.kids.length := by omega
       simp [C_ref04_SameType,o1,o2,o3,o4,u1,u2,hHb',hbox,hbox2,loadC,p1,p2,q1,q2,pa,pb,qa,qb,np,nq,nb0,nb1,hH3',ee,f2,f3,ln,lm,eq_true d1,eq_true d2,eq_true d3,eq_true d4,d5,d5',hcf,hfin,-halloc_d,-hset_d]
      ·simp [C_ref04_SameType,o1,o2,o3,o4,u1,u2,hHb',hbox,hbox2,loadC,p1,p2,q1,q2,pa,pb,qa,qb,np,nq,nb0,nb1,hH3',ee,f2,f3,ln,lm,eq_true d1,eq_true d2,eq_true d3,d4,hcf,hfin,-halloc_d,-hset_d]
     ·simp [C_ref04_SameType,o1,o2,o3,o4,u1,u2,hHb',hbox,hbox2,loadC,p1,p2,q1,q2,pa,pb,qa,qb,np,nq,nb0,nb1,hH3',ee,f2,f3,ln,lm,eq_true d1,eq_true d2,d3,hcf,hfin,-halloc_d,-hset_d]
    ·simp [C_ref04_SameType,o1,o2,o3,o4,u1,u2,hHb',hbox,hbox2,loadC,p1,p2,q1,q2,pa,pb,qa,qb,np,nq,nb0,nb1,hH3',ee,f2,f3,ln,lm,eq_true d1,d2,hcf,hfin,-halloc_d,-hset_d]
   ·simp [C_ref04_SameType,o1,o2,o3,o4,u1,u2,hHb',hbox,hbox2,loadC,p1,p2,q1,q2,pa,pb,qa,qb,np,nq,nb0,nb1,hH3',ee,f2,f3,ln,lm,d1,hcf,hfin,-halloc_d,-hset_d]
end
end Go.Proofs.Eng
namespace Go.Proofs.Eng
open Go
section
variable {Γ : Sums} {A : Tab} {N : Nat -> Nat}
set_option maxHeartbeats 4000000 in
theorem ref04_SameTerm_call (h : RefS Γ A N) {a1 b1 c1 a2 b2 c2 : AV} {ta tb : Tr} (ho : c1.one = true /\ c2.one = true) (hp : Pair ta tb) : ∀ (f i j : Nat) (H : Hp),i < f -> i < ta.nodes.length -> j < tb.nodes.length -> RowR NdR 8 H a1 ta.nodes -> RowR NdR 8 H a2 tb.nodes -> RowR TyR 6 H b1 ta.types -> RowR TyR 6 H b2 tb.types ->
  (lim Γ A).call (f_ref04_SameTerm N) [.agg [a1,b1,c1],avInt .i64 (i : Nat),.agg [a2,b2,c2],avInt .i64 (j : Nat)] H = some (avBool (sameNd ta tb i j),none)
 | 0,i,j,H,hf,_,_,_,_,_,_ => by omega
 | f + 1,i,j,H,hf,hi,hj,h1,h2,g1,g2 => by
  obtain ⟨o2,o4⟩ := ho
  have o1 := g1.one
  have o3 := g2.one
  obtain ⟨xs,x1,x2,x3⟩ := id h1
  obtain ⟨ys,y1,y2,y3⟩ := id h2
  obtain ⟨m,hm⟩ : ∃ m,ta.nodes[i]? = some m := ⟨_,List.getElem?_eq_getElem hi⟩
  obtain ⟨n,hn⟩ : ∃ n,tb.nodes[j]? = some n := ⟨_,List.getElem?_eq_getElem hj⟩
  have okn := hp.oa.1 m (List.mem_of_getElem? hm)
  have htl := hp.tl m (List.mem_of_getElem? hm) n (List.mem_of_getElem? hn)
  have hse := sameNd_eq hp.na hm hn
  obtain ⟨na,nb,nc,e1,va,vb,vc⟩ := x3 i xs[i] m (List.getElem?_eq_getElem (by omega)) hm
  obtain ⟨ma,mb,mc,e2,wa,wb,wc⟩ := y3 j ys[j] n (List.getElem?_eq_getElem (by omega)) hn
  have hx : xs[i]? = some (ndV m na nb nc) := by rw [List.getElem?_eq_getElem (by omega),e1]
  have hy : ys[j]? = some (ndV n ma mb mc) := by rw [List.getElem?_eq_getElem (by omega),e2]
  have pa := va.one
  have pb := vb.one
  have pc := vc.one
  have qa := wa.one
  have qb := wb.one
  have qc := wc.one
  have u1 := x1.one
  have u2 := y1.one
  obtain ⟨Hb,hHb⟩ : ∃ Hb,Hb = halloc (halloc { l := H.l,d := none } (.cells [a1,b1,c1] (t_api_Tree N))) (.cells [a2,b2,c2] (t_api_Tree N)) := ⟨_,rfl⟩
  have hM0 : Mut { l := H.l,d := none } Hb [] := by rw [hHb]; exact ((Mut.refl _ _).alloc _).alloc _
  have kb : Keep H Hb := fun id hid => hM0.get hid (by simp)
  have hbox : hget Hb H.l.length = some (.cells [a1,b1,c1] (t_api_Tree N)) := by subst hHb; simp
  have hbox2 : hget Hb (H.l.length + 1) = some (.cells [a2,b2,c2] (t_api_Tree N)) := by subst hHb; simp
  have hHb' := hHb.symm
  have hlb : Hb.l.length = H.l.length + 2 := by subst hHb; simp
  obtain ⟨p,p1,p2⟩ := (kb.vw x1).ats (k := .i64) (ys := [avInt .i64 m.kind,avInt .i64 m.pos,avStr m.name,avInt .i64 m.int,avInt .u64 m.bits,na,nb,nc]) hx rfl (by simp [pa,pb,pc])
  obtain ⟨q,q1,q2⟩ := (kb.vw y1).ats (k := .i64) (ys := [avInt .i64 n.kind,avInt .i64 n.pos,avStr n.name,avInt .i64 n.int,avInt .u64 n.bits,ma,mb,mc]) hy rfl (by simp [qa,qb,qc])
  have np : ¬ Hb.l.length ∈ ridOf p := fun hm => Nat.lt_irrefl _ (rid_lt p2 _ hm)
  have nq : ¬ Hb.l.length ∈ ridOf q := fun hm => Nat.lt_irrefl _ (rid_lt q2 _ hm)
  simp only [ridOf] at np nq
  have nb0 : ¬ Hb.l.length = H.l.length := by omega
  have nb1 : ¬ Hb.l.length = H.l.length + 1 := by omega
  obtain ⟨cz,hcz⟩ : ∃ cz,cz = AObj.cells [.lit (.int .i64 0),.lit (.int .i64 0),.lit (.string (mkS [])),.lit (.int .i64 0),.lit (.int .u64 0),.lit (.slice none 0 0),.lit (.slice none 0 0),.lit (.slice none 0 0)] (t_api_Node N) := ⟨_,rfl⟩
  obtain ⟨cm,hcm⟩ : ∃ cm,cm = AObj.cells [avInt .i64 m.kind,avInt .i64 m.pos,avStr m.name,avInt .i64 m.int,avInt .u64 m.bits,na,nb,nc] (t_api_Node N) := ⟨_,rfl⟩
  obtain ⟨cn,hcn⟩ : ∃ cn,cn = AObj.cells [avInt .i64 n.kind,avInt .i64 n.pos,avStr n.name,avInt .i64 n.int,avInt .u64 n.bits,ma,mb,mc] (t_api_Node N) := ⟨_,rfl⟩
  obtain ⟨H3,hH3⟩ : ∃ H3,H3 = hset (hset (halloc (halloc Hb cz) cz) Hb.l.length (some cm)) (Hb.l.length + 1) (some cn) := ⟨_,rfl⟩
  have hM3 : Mut { l := H.l,d := none } H3 [] := by
   rw [hH3]
   exact (((hM0.alloc _).alloc _).set (.inr (by simp only [hlb]; omega))).set (.inr (by simp only [hlb]; omega))
  have k3 : Keep H H3 := fun id hid => hM3.get hid (by simp)
  have f1 : hget H3 H.l.length = some (.cells [a1,b1,c1] (t_api_Tree N)) := by
   rw [hH3,hget_hset,if_neg (by omega),hget_hset,if_neg (by omega),hget_halloc,if_neg (by simp; omega),hget_halloc,if_neg (by omega)]
   exact hbox
  have f0 : hget H3 (H.l.length + 1) = some (.cells [a2,b2,c2] (t_api_Tree N)) := by
   rw [hH3,hget_hset,if_neg (by omega),hget_hset,if_neg (by omega),hget_halloc,if_neg (by simp; omega),hget_halloc,if_neg (by omega)]
   exact hbox2
  have f2 : hget H3 Hb.l.length = some cm := by
   rw [hH3,hget_hset,if_neg (by omega),hget_hset,if_pos rfl]
   simp
  have f3 : hget H3 (Hb.l.length + 1) = some cn := by
   rw [hH3,hget_hset,if_pos rfl]
   simp
  have hfin : ∀ b,settle H (avBool b) H3 = (avBool b,none) := fun b => settle_keeps (H := H) (H' := H3) (hM3.keeps rfl) (by rfl)
  have ee := ref04_same_call h.same (k3.vw va) (k3.vw wa) (by have := okn.2.2.1; omega)
  have ln := VI.len vb
  have lm := VI.len wb
  have lc := VI.len vc
  have ld := VI.len wc
  have hkl := okn.2.2.2.1
  have hkt := okn.2.2.2.2
  have hH3' := hH3.symm
  rw [hcz,hcm,hcn] at hH3'
  rw [hcm] at f2
  rw [hcn] at f3
  rw [hse]
  apply h.term.call (by rfl)
  by_cases hc : ndEq m n = true
  ·have hc' := hc
   unfold ndEq at hc'
   simp only [Bool.and_eq_true,decide_eq_true_eq] at hc'
   obtain ⟨⟨⟨⟨⟨⟨d1,d2⟩,d3⟩,d4⟩,d5⟩,d6⟩,d7⟩ := hc'
   have d6' : (m.kids.length : Int) = n.kids.length := by omega
   have d7' : (m.types.length : Int) = n.types.length := by omega
   simp [C_ref04_SameTerm,o1,o2,o3,o4,u1,u2,hHb',hbox,hbox2,loadC,p1,p2,q1,q2,pa,pb,pc,qa,qb,qc,np,nq,nb0,nb1,hH3',ee,f2,f3,ln,lm,lc,ld,eq_true d1,eq_true d2,eq_true d3,eq_true d4,eq_true d5,eq_true d6,eq_true d6',eq_true d7,eq_true d7',hc,-halloc_d,-hset_d]
   refine wp_round (n := m.kids.length) (fun k ρ H' => ∃ x : Nat,ρ 4 = .ptr H.l.length 0 /\ ρ 6 = .ptr (H.l.length + 1) 0 /\ ρ 9 = .ptr Hb.l.length 0 /\ ρ 10 = .ptr (Hb.l.length + 1) 0 /\ ρ 77 = avInt .i64 (m.kids.length : Nat) /\ ρ 78 = avInt .i64 (x : Nat) /\ x <= m.kids.length /\ H' = H3 /\ allP (sameNd ta tb) (m.kids.take x) (n.kids.take x) = true /\ k = m.kids.length - x) ⟨0,rfl,rfl,rfl,rfl,rfl,rfl,by omega,rfl,rfl,rfl⟩ ?_
   rintro k ρ H' ⟨x,r4,r6,r9,r10,r77,r78,hx',rfl,hal,rfl⟩
   by_cases hlm : x < m.kids.length
   ·have hlt' : (x : Int) < m.kids.length := by omega
    have hlt : x < n.kids.length := by omega
    obtain ⟨k0,k1⟩ := (hp.na i m hm).1 m.kids[x] (List.getElem_mem hlm)
    obtain ⟨l0,l1⟩ := (hp.nb j n hn).1 n.kids[x] (List.getElem_mem hlt)
    have hat := allP_take (p := sameNd ta tb) hlm hlt
    have haf := allP_false (p := sameNd ta tb) hlm hlt
    obtain ⟨p',t1,t2⟩ := (k3.vw vb).at' (k := .i64) (i := (x : Int)) (e := avInt .i64 m.kids[x]) (by omega) (by simp [hlm]) rfl rfl rfl
    obtain ⟨q',s1,s2⟩ := (k3.vw wb).at' (k := .i64) (i := (x : Int)) (e := avInt .i64 n.kids[x]) (by omega) (by simp [hlt]) rfl rfl rfl
    generalize m.kids[x] = km at *
    generalize n.kids[x] = kn at *
    have ih := ref04_SameTerm_call h ⟨o2,o4⟩ hp f km.toNat kn.toNat H' (by omega) (by omega) (by omega) (k3.row (fun _ _ => k3.nd) h1) (k3.row (fun _ _ => k3.nd) h2) (k3.row (fun _ _ => k3.ty) g1) (k3.row (fun _ _ => k3.ty) g2)
    rw [Int.toNat_of_nonneg k0,Int.toNat_of_nonneg l0] at ih
    have hw : IntKind.wrap .i64 ((x : Int) + 1) = ((x + 1 : Nat) : Int) := by rw [wrap64 (by omega) (by omega)]; omega
    rcases hs : sameNd ta tb km kn with _ | _
    ·rw [hs] at ih
     simp [L_ref04_SameTerm_1,r4,r6,r9,r10,r77,r78,hlt',f0,f1,f2,f3,t1,t2,s1,s2,o1,o2,o3,o4,u1,u2,loadC,ih,hw,haf hs,hfin,-Int.natCast_add]
    ·rw [hs] at ih hat
     simp [L_ref04_SameTerm_1,r4,r6,r9,r10,r77,r78,hlt',f0,f1,f2,f3,t1,t2,s1,s2,o1,o2,o3,o4,u1,u2,loadC,ih,hw,-Int.natCast_add]
     exact ⟨m.kids.length - (x + 1),by omega,x + 1,rfl,by omega,by rw [hat,hal]; rfl,rfl⟩
   ·have hlt' : ¬ (x : Int) < m.kids.length := by omega
    rw [List.take_of_length_le (by omega),List.take_of_length_le (by omega)] at hal
    simp [L_ref04_SameTerm_1,K_ref04_SameTerm_1,r4,r6,r9,r10,r77,r78,hlt',f2,lc,loadC]
    refine wp_round (n := m.types.length) (fun k ρ H'' => ∃ x : Nat,ρ 4 = .ptr H.l.length 0 /\ ρ 6 = .ptr (H.l.length + 1) 0 /\ ρ 9 = .ptr Hb.l.length 0 /\ ρ 10 = .ptr (Hb.l.length + 1) 0 /\ ρ 98 = avInt .i64 (m.types.length : Nat) /\ ρ 99 = avInt .i64 (x : Nat) /\ x <= m.types.length /\ H'' = H' /\ allP (sameTy ta.types tb.types) (m.types.take x) (n.types.take x) = true /\ k = m.types.length - x) ⟨0,r4,r6,r9,r10,rfl,rfl,by omega,rfl,rfl,rfl⟩ ?_
    rintro k ρ2 H'' ⟨x2,r4,r6,r9,r10,r98,r99,hx2,rfl,hal2,rfl⟩
    by_cases hlm2 : x2 < m.types.length
    ·have hlt2' : (x2 : Int) < m.types.length := by omega
     have hlt2 : x2 < n.types.length := by omega
     obtain ⟨k0,k1⟩ := (hp.na i m hm).2 m.types[x2] (List.getElem_mem hlm2)
     obtain ⟨l0,l1⟩ := (hp.nb j n hn).2 n.types[x2] (List.getElem_mem hlt2)
     have hat := allP_take (p := sameTy ta.types tb.types) hlm2 hlt2
     have haf := allP_false (p := sameTy ta.types tb.types) hlm2 hlt2
     obtain ⟨p',t1,t2⟩ := (k3.vw vc).at' (k := .i64) (i := (x2 : Int)) (e := avInt .i64 m.types[x2]) (by omega) (by simp [hlm2]) rfl rfl rfl
     obtain ⟨q',s1,s2⟩ := (k3.vw wc).at' (k := .i64) (i := (x2 : Int)) (e := avInt .i64 n.types[x2]) (by omega) (by simp [hlt2]) rfl rfl rfl
     generalize m.types[x2] = km at *
     generalize n.types[x2] = kn at *
     have ih := ref04_SameType_call h ⟨u1,o2,u2,o4⟩ hp.oa.2.1 hp.ya hp.yb (km.toNat + 1) km.toNat kn.toNat H'' (by omega) (by omega) (by omega) (k3.row (fun _ _ => k3.ty) g1) (k3.row (fun _ _ => k3.ty) g2)
     rw [Int.toNat_of_nonneg k0,Int.toNat_of_nonneg l0] at ih
     have hw : IntKind.wrap .i64 ((x2 : Int) + 1) = ((x2 + 1 : Nat) : Int) := by rw [wrap64 (by omega) (by omega)]; omega
     rcases hs : sameTy ta.types tb.types km kn with _ | _
     ·rw [hs] at ih
      simp [L_ref04_SameTerm_2,r4,r6,r9,r10,r98,r99,hlt2',f0,f1,f2,f3,t1,t2,s1,s2,o1,o2,o3,o4,u1,u2,loadC,ih,hw,haf hs,hfin,-Int.natCast_add]
     ·rw [hs] at ih hat
      simp [L_ref04_SameTerm_2,r4,r6,r9,r10,r98,r99,hlt2',f0,f1,f2,f3,t1,t2,s1,s2,o1,o2,o3,o4,u1,u2,loadC,ih,hw,-Int.natCast_add]
      exact ⟨m.types.length - (x2 + 1),by omega,x2 + 1,rfl,by omega,by rw [hat,hal2]; rfl,rfl⟩
    ·have hlt2' : ¬ (x2 : Int) < m.types.length := by omega
     rw [List.take_of_length_le (by omega),List.take_of_length_le (by omega)] at hal2
     simp [L_ref04_SameTerm_2,K_ref04_SameTerm_2,r4,r6,r9,r10,r98,r99,hlt2',hfin,hal,hal2]
  ·have hcf : ndEq m n = false := by simpa using hc
   by_cases d1 : ¬ m.kind = n.kind
   ·simp [C_ref04_SameTerm,o1,o2,o3,o4,u1,u2,hHb',hbox,hbox2,loadC,p1,p2,q1,q2,pa,pb,pc,qa,qb,qc,np,nq,nb0,nb1,hH3',ee,f2,f3,ln,lm,lc,ld,d1,hcf,hfin,-halloc_d,-hset_d]
   replace d1 := Classical.not_not.1 d1
   by_cases d2 : ¬ m.name = n.name
   ·simp [C_ref04_SameTerm,o1,o2,o3,o4,u1,u2,hHb',hbox,hbox2,loadC,p1,p2,q1,q2,pa,pb,pc,qa,qb,qc,np,nq,nb0,nb1,hH3',ee,f2,f3,ln,lm,lc,ld,eq_true d1,d2,hcf,hfin,-halloc_d,-hset_d]
   replace d2 := Classical.not_not.1 d2
   by_cases d3 : ¬ m.int = n.int
   ·simp [C_ref04_SameTerm,o1,o2,o3,o4,u1,u2,hHb',hbox,hbox2,loadC,p1,p2,q1,q2,pa,pb,pc,qa,qb,qc,np,nq,nb0,nb1,hH3',ee,f2,f3,ln,lm,lc,ld,eq_true d1,eq_true d2,d3,hcf,hfin,-halloc_d,-hset_d]
   replace d3 := Classical.not_not.1 d3
   by_cases d4 : ¬ m.bits = n.bits
   ·simp [C_ref04_SameTerm,o1,o2,o3,o4,u1,u2,hHb',hbox,hbox2,loadC,p1,p2,q1,q2,pa,pb,pc,qa,qb,qc,np,nq,nb0,nb1,hH3',ee,f2,f3,ln,lm,lc,ld,eq_true d1,eq_true d2,eq_true d3,d4,hcf,hfin,-halloc_d,-hset_d]
   replace d4 := Classical.not_not.1 d4
   by_cases d5 : ¬ m.names = n.names
   ·simp [C_ref04_SameTerm,o1,o2,o3,o4,u1,u2,hHb',hbox,hbox2,loadC,p1,p2,q1,q2,pa,pb,pc,qa,qb,qc,np,nq,nb0,nb1,hH3',ee,f2,f3,ln,lm,lc,ld,eq_true d1,eq_true d2,eq_true d3,eq_true d4,d5,hcf,hfin,-halloc_d,-hset_d]
   replace d5 := Classical.not_not.1 d5
   by_cases d6 : ¬ m.kids.length = n.kids.length
   ·have d6' : ¬ (m.kids.length : Int) = n.kids.length := by omega
    simp [C_ref04_SameTerm,o1,o2,o3,o4,u1,u2,hHb',hbox,hbox2,loadC,p1,p2,q1,q2,pa,pb,pc,qa,qb,qc,np,nq,nb0,nb1,hH3',ee,f2,f3,ln,lm,lc,ld,eq_true d1,eq_true d2,eq_true d3,eq_true d4,eq_true d5,d6,d6',hcf,hfin,-halloc_d,-hset_d]
   replace d6 := Classical.not_not.1 d6
   exact absurd (by unfold ndEq; simp [d1,d2,d3,d4,d5,d6,htl d1]) hc
end
end Go.Proofs.Eng
namespace Go.Proofs.Eng
open Go

def C_ref04_Name (N : Nat -> Nat) : AFunc := ⟨10,[.inl 2],
 .seq (
 .ops [⟨some 2,.mov (.c (.lit (.bool false))),none⟩]) (
 .seq (
 .ops [⟨some 3,.mov (.t 0),none⟩,⟨some 4,.call (.c (.fn (f_ref04_Tag N) [] [])) [(.t 3)],none⟩,⟨some 5,.mov (.t 4),none⟩,⟨some 6,.mov (.t 0),(some (5,true))⟩,⟨some 7,.call (.c (.fn (f_ref03_IsWord N) [] [])) [(.t 6)],(some (5,true))⟩,⟨some 8,.un .not (.t 7),(some (5,true))⟩,⟨some 9,.pick (.t 5) (.t 8) (.c (.lit (.bool false))),none⟩,⟨some 2,.mov (.t 9),none⟩]) (
 .ret)),false⟩

def L_ref04_Tag_1 (N : Nat -> Nat) : AC :=
 .seq (
 .seq (
 .ops [⟨some 6,.mov (.t 3),none⟩,⟨some 7,.mov (.t 0),none⟩,⟨some 8,.lens (.t 7),none⟩,⟨some 9,.bin .lss (.t 6) (.t 8),none⟩]) (
 .cond (.t 9) (
 .skip) (
 .exit 0))) (
 .seq (
 .block 1 (
 .seq (
 .ops [⟨some 12,.mov (.t 0),none⟩,⟨some 13,.mov (.t 3),none⟩,⟨some 14,.sidx (.t 12) (.t 13),none⟩,⟨some 4,.mov (.t 14),none⟩]) (
 .seq (
 .ops [⟨some 15,.mov (.t 4),none⟩,⟨some 16,.bin .geq (.t 15) (.c (.lit (.int .u8 97))),none⟩,⟨some 17,.mov (.t 16),none⟩,⟨some 18,.mov (.t 4),(some (17,true))⟩,⟨some 19,.bin .leq (.t 18) (.c (.lit (.int .u8 122))),(some (17,true))⟩,⟨some 20,.pick (.t 17) (.t 19) (.c (.lit (.bool false))),none⟩,⟨some 21,.mov (.t 20),none⟩,⟨some 22,.mov (.t 4),(some (21,false))⟩,⟨some 23,.eq false .pint (.t 22) (.c (.lit (.int .u8 95))),(some (21,false))⟩,⟨some 24,.pick (.t 21) (.c (.lit (.bool true))) (.t 23),none⟩,⟨some 5,.mov (.t 24),none⟩]) (
 .seq (
 .ops [⟨some 25,.mov (.t 5),none⟩,⟨some 26,.un .not (.t 25),none⟩,⟨some 27,.mov (.t 26),none⟩,⟨some 28,.mov (.t 3),(some (27,true))⟩,⟨some 29,.eq false .pint (.t 28) (.c (.lit (.int .i64 0))),(some (27,true))⟩,⟨some 30,.mov (.t 29),(some (27,true))⟩,⟨some 31,.mov (.t 4),(some (30,false))⟩,⟨some 32,.bin .lss (.t 31) (.c (.lit (.int .u8 48))),(some (30,false))⟩,⟨some 33,.pick (.t 30) (.c (.lit (.bool true))) (.t 32),(some (27,true))⟩,⟨some 34,.mov (.t 33),(some (27,true))⟩,⟨some 35,.mov (.t 4),(some (34,false))⟩,⟨some 36,.bin .gtr (.t 35) (.c (.lit (.int .u8 57))),(some (34,false))⟩,⟨some 37,.pick (.t 34) (.c (.lit (.bool true))) (.t 36),(some (27,true))⟩,⟨some 38,.pick (.t 27) (.t 37) (.c (.lit (.bool false))),none⟩]) (
 .cond (.t 38) (
 .seq (
 .ops [⟨some 2,.mov (.c (.lit (.bool false))),none⟩]) (
 .ret)) (
 .skip)))))) (
 .ops [⟨some 10,.mov (.t 3),none⟩,⟨some 11,.bin .add (.t 10) (.c (.lit (.int .i64 1))),none⟩,⟨some 3,.mov (.t 11),none⟩]))
def K_ref04_Tag_1 (N : Nat -> Nat) : AC :=
 .seq (
 .ops [⟨some 39,.mov (.t 0),none⟩,⟨some 40,.eq true .pstr (.t 39) (.c (.lit (.string (mkS [])))),none⟩,⟨some 2,.mov (.t 40),none⟩]) (
 .ret)
def C_ref04_Tag (N : Nat -> Nat) : AFunc := ⟨41,[.inl 2],
 .seq (
 .ops [⟨some 2,.mov (.c (.lit (.bool false))),none⟩]) (
 .seq (
 .seq (
 .ops [⟨some 3,.mov (.c (.lit (.int .i64 0))),none⟩]) (
 .block 0 (
 .loop (L_ref04_Tag_1 N)))) (K_ref04_Tag_1 N)),false⟩
end Go.Proofs.Eng
namespace Go.Proofs.Eng
open Go

def L_ref03_IsWord_1 (N : Nat -> Nat) : AC :=
 .seq (
 .seq (
 .ops [⟨some 7,.mov (.t 3),none⟩,⟨some 8,.mov (.t 0),none⟩,⟨some 9,.lens (.t 8),none⟩,⟨some 10,.bin .lss (.t 7) (.t 9),none⟩]) (
 .cond (.t 10) (
 .skip) (
 .exit 0))) (
 .seq (
 .block 1 (
 .seq (
 .ops [⟨some 13,.mov (.t 0),none⟩,⟨some 14,.mov (.t 3),none⟩,⟨some 15,.sidx (.t 13) (.t 14),none⟩,⟨some 16,.bin .lss (.t 15) (.c (.lit (.int .u8 97))),none⟩,⟨some 17,.mov (.t 16),none⟩,⟨some 18,.mov (.t 0),(some (17,false))⟩,⟨some 19,.mov (.t 3),(some (17,false))⟩,⟨some 20,.sidx (.t 18) (.t 19),(some (17,false))⟩,⟨some 21,.bin .gtr (.t 20) (.c (.lit (.int .u8 122))),(some (17,false))⟩,⟨some 22,.pick (.t 17) (.c (.lit (.bool true))) (.t 21),none⟩]) (
 .cond (.t 22) (
 .seq (
 .ops [⟨some 2,.mov (.c (.lit (.bool false))),none⟩]) (
 .ret)) (
 .skip)))) (
 .ops [⟨some 11,.mov (.t 3),none⟩,⟨some 12,.bin .add (.t 11) (.c (.lit (.int .i64 1))),none⟩,⟨some 3,.mov (.t 12),none⟩]))
def L_ref03_IsWord_2 (N : Nat -> Nat) : AC :=
 .seq (
 .seq (
 .ops [⟨some 23,.mov (.t 4),none⟩,⟨some 24,.mov (.t 0),none⟩,⟨some 25,.lens (.t 24),none⟩,⟨some 26,.bin .add (.t 23) (.t 25),none⟩,⟨some 27,.bin .add (.t 26) (.c (.lit (.int .i64 2))),none⟩,⟨some 28,.bin .leq (.t 27) (.c (.lit (.int .i64 89))),none⟩]) (
 .cond (.t 28) (
 .skip) (
 .exit 2))) (
 .seq (
 .block 3 (
 .seq (
 .ops [⟨some 31,.mov (.t 4),none⟩,⟨some 32,.mov (.t 4),none⟩,⟨some 33,.mov (.t 0),none⟩,⟨some 34,.lens (.t 33),none⟩,⟨some 35,.bin .add (.t 32) (.t 34),none⟩,⟨some 36,.bin .add (.t 35) (.c (.lit (.int .i64 2))),none⟩,⟨some 37,.slstr (.c (.lit (.string (mkS [32,102,117,110,32,108,101,116,32,114,101,99,32,105,110,32,105,102,32,116,104,101,110,32,101,108,115,101,32,99,97,115,101,32,111,102,32,101,110,100,32,116,114,117,101,32,102,97,108,115,101,32,105,110,116,32,98,111,111,108,32,115,116,114,32,102,108,111,97,116,32,100,121,110,32,97,110,121,32,110,111,110,101,32,116,121,112,101,32])))) (some (.t 31)) (some (.t 36)),none⟩,⟨some 38,.mov (.t 0),none⟩,⟨some 39,.bin .add (.c (.lit (.string (mkS [32])))) (.t 38),none⟩,⟨some 40,.bin .add (.t 39) (.c (.lit (.string (mkS [32])))),none⟩,⟨some 41,.eq false .pstr (.t 37) (.t 40),none⟩]) (
 .cond (.t 41) (
 .seq (
 .ops [⟨some 2,.mov (.c (.lit (.bool true))),none⟩]) (
 .ret)) (
 .skip)))) (
 .ops [⟨some 29,.mov (.t 4),none⟩,⟨some 30,.bin .add (.t 29) (.c (.lit (.int .i64 1))),none⟩,⟨some 4,.mov (.t 30),none⟩]))
def K_ref03_IsWord_2 (N : Nat -> Nat) : AC :=
 .seq (
 .ops [⟨some 2,.mov (.c (.lit (.bool false))),none⟩]) (
 .ret)
def K_ref03_IsWord_1 (N : Nat -> Nat) : AC :=
 .seq (
 .seq (
 .ops [⟨some 4,.mov (.c (.lit (.int .i64 0))),none⟩]) (
 .block 2 (
 .loop (L_ref03_IsWord_2 N)))) (K_ref03_IsWord_2 N)
def C_ref03_IsWord (N : Nat -> Nat) : AFunc := ⟨42,[.inl 2],
 .seq (
 .ops [⟨some 2,.mov (.c (.lit (.bool false))),none⟩]) (
 .seq (
 .seq (
 .ops [⟨some 5,.mov (.t 0),none⟩,⟨some 6,.eq false .pstr (.t 5) (.c (.lit (.string (mkS [])))),none⟩]) (
 .cond (.t 6) (
 .seq (
 .ops [⟨some 2,.mov (.c (.lit (.bool false))),none⟩]) (
 .ret)) (
 .skip))) (
 .seq (
 .seq (
 .ops [⟨some 3,.mov (.c (.lit (.int .i64 0))),none⟩]) (
 .block 0 (
 .loop (L_ref03_IsWord_1 N)))) (K_ref03_IsWord_1 N))),false⟩

end Go.Proofs.Eng
namespace Go.Proofs.Eng
open Go
section
variable {Γ : Sums} {A : Tab} {N : Nat -> Nat}
def wordsC : List UInt8 := [32,102,117,110,32,108,101,116,32,114,101,99,32,105,110,32,105,102,32,116,104,101,110,32,101,108,115,101,32,99,97,115,101,32,111,102,32,101,110,100,32,116,114,117,101,32,102,97,108,115,101,32,105,110,116,32,98,111,111,108,32,115,116,114,32,102,108,111,97,116,32,100,121,110,32,97,110,121,32,110,111,110,101,32,116,121,112,101,32]
theorem wordsC_eq : (32 :: 102 :: 117 :: 110 :: 32 :: 108 :: 101 :: 116 :: 32 :: 114 :: 101 :: 99 :: 32 :: 105 :: 110 :: 32 :: 105 :: 102 :: 32 :: 116 :: 104 :: 101 :: 110 :: 32 :: 101 :: 108 :: 115 :: 101 :: 32 :: 99 :: 97 :: 115 :: 101 :: 32 :: 111 :: 102 :: 32 :: 101 :: 110 :: 100 :: 32 :: 116 :: 114 :: 117 :: 101 :: 32 :: 102 :: 97 :: 108 :: 115 :: 101 :: 32 :: 105 :: 110 :: 116 :: 32 :: 98 :: 111 :: 111 :: 108 :: 32 :: 115 :: 116 :: 114 :: 32 :: 102 :: 108 :: 111 :: 97 :: 116 :: 32 :: 100 :: 121 :: 110 :: 32 :: 97 :: 110 :: 121 :: 32 :: 110 :: 111 :: 110 :: 101 :: 32 :: 116 :: 121 :: 112 :: 101 :: 32 :: [] : List UInt8) = wordsC := by kernel_rfl
def az (c : UInt8) : Bool := decide (97 <= c.toNat) && decide (c.toNat <= 122)
theorem words_fwd (i n : Nat) (hi : i < 90) (hn : n < 90) (h1 : ((wordsC.drop (i + 1)).take n).all az = true) (h2 : (wordsC.drop (i + 1)).take n ≠ []) (h3 : (wordsC.drop i).take (n + 2) = 32 :: ((wordsC.drop (i + 1)).take n ++ [32])) : (wordsC.drop (i + 1)).take n ∈ wordsL := by
 have : (List.range 90).all (fun i => (List.range 90).all fun n => let s := (wordsC.drop (i + 1)).take n; !(s.all az && !s.isEmpty && (wordsC.drop i).take (n + 2) == 32 :: (s ++ [32])) || wordsL.contains s) = true := by decide +kernel
 rw [List.all_eq_true] at this
 have := this i (by simp; exact hi)
 rw [List.all_eq_true] at this
 have := this n (by simp; exact hn)
 have e : ((wordsC.drop (i + 1)).take n).isEmpty = false := by simpa using h2
 simp only [h1,e,h3,Bool.not_false,Bool.and_self,beq_self_eq_true,Bool.not_true,Bool.false_or,List.contains_iff_mem] at this
 exact this
theorem words_bwd {s : List UInt8} (h : s ∈ wordsL) : s.all az = true /\ s ≠ [] /\ ∃ i,i + s.length + 2 <= 89 /\ (wordsC.drop i).take (s.length + 2) = 32 :: (s ++ [32]) := by
 have : ∀ s ∈ wordsL,s.all az = true /\ s ≠ [] /\ ((List.range 90).any fun i => decide (i + s.length + 2 <= 89) && (wordsC.drop i).take (s.length + 2) == 32 :: (s ++ [32])) = true := by decide +kernel
 obtain ⟨h1,h2,h3⟩ := this s h
 refine ⟨h1,h2,?_⟩
 rw [List.any_eq_true] at h3
 obtain ⟨i,_,h4⟩ := h3
 rw [Bool.and_eq_true,decide_eq_true_eq,beq_iff_eq] at h4
 exact ⟨i,h4⟩
theorem words_iff {s : List UInt8} (h1 : s.all az = true) (h2 : s ≠ []) : (∃ i,i + s.length + 2 <= 89 /\ (wordsC.drop i).take (s.length + 2) = 32 :: (s ++ [32])) ↔ s ∈ wordsL := by
 constructor
 ·rintro ⟨i,hi,h3⟩
  have e : (wordsC.drop (i + 1)).take s.length = s := by
   have h4 := congrArg (fun l => (l.drop 1).take s.length) h3
   simpa [List.drop_take,List.take_take] using h4
  have := words_fwd i s.length (by omega) (by omega) (by rw [e]; exact h1) (by rw [e]; exact h2) (by rw [e]; exact h3)
  rwa [e] at this
 ·intro h
  exact (words_bwd h).2.2

end
end Go.Proofs.Eng
namespace Go.Proofs.Eng
open Go
section
variable {Γ : Sums} {A : Tab} {N : Nat -> Nat}
def tagB (s : List UInt8) : Bool := !s.isEmpty && (s.head?.map isLow).getD false && decide (runB isInName s = s.length)
theorem nameB_tag (s : List UInt8) : isNameB s = (tagB s && !isWordB s) := rfl
structure Ref04N (Γ : Sums) (A : Tab) (N : Nat -> Nat) : Prop where
 tag : Has Γ A (f_ref04_Tag N) (C_ref04_Tag N)
 name : Has Γ A (f_ref04_Name N) (C_ref04_Name N)
theorem ref04_Tag_call (h : Ref04N Γ A N) (s : List UInt8) (hl : s.length < 2 ^ 40) (H : Hp) : (lim Γ A).call (f_ref04_Tag N) [avStr s] H = some (avBool (tagB s),none) := by
 apply h.tag.call (by rfl)
 simp [C_ref04_Tag,-Int.natCast_add]
 refine wp_round (fun k ρ H' => H' = { l := H.l,d := none } /\ ∃ i : Nat,ρ 0 = avStr s /\ ρ 3 = avInt .i64 i /\ i <= s.length /\ (s.take i).all isInName = true /\ (0 < i -> (s.head?.map isLow).getD false = true) /\ k = s.length - i) (n := s.length) ⟨rfl,0,rfl,rfl,by omega,by simp,by omega,rfl⟩ ?_
 rintro k ρ H' ⟨rfl,i,r0,r3,hi,ha,hp,rfl⟩
 have hrd := runB_drop isInName s i ha hi
 by_cases hlt : i < s.length
 ·have hlt' : (i : Int) < s.length := by omega
  have hx := asidx_nat (k := .i64) hlt
  have hw : IntKind.wrap .i64 ((i : Int) + 1) = ((i + 1 : Nat) : Int) := by rw [wrap64 (by omega) (by omega)]; omega
  have hd : s.drop i = s[i] :: s.drop (i + 1) := List.drop_eq_getElem_cons hlt
  have hhd : i = 0 -> (s.head?.map isLow).getD false = isLow s[i] := by
   rintro rfl
   simp [List.head?_eq_getElem?,List.getElem?_eq_getElem hlt]
  have stopN : isInName s[i] = false -> tagB s = false := by
   intro hc
   unfold tagB
   have : runB isInName s = i := by rw [hrd,hd,runB_stop hc]; omega
   simp [this]; omega
  have stop0 : i = 0 -> isLow s[i] = false -> tagB s = false := by
   intro h0 hc
   unfold tagB
   rw [hhd h0,hc]; simp
  have go : isInName s[i] = true -> (s.take (i + 1)).all isInName = true := by
   intro hz
   rw [List.take_succ_eq_append_getElem hlt,List.all_append,ha]; simp [hz]
  have gohd : (i = 0 -> isLow s[i] = true) -> (s.head?.map isLow).getD false = true := by
   intro hz
   by_cases h0 : i = 0
   ·rw [hhd h0,hz h0]
   ·exact hp (by omega)
  generalize s[i] = c at *
  have hlow : isLow c = (decide (97 <= c.toNat) && decide (c.toNat <= 122) || decide (c.toNat = 95)) := rfl
  have hnm : isInName c = (isLow c || (decide (48 <= c.toNat) && decide (c.toNat <= 57))) := rfl
  have step : isLow c = true \/ (i ≠ 0 /\ 48 <= c.toNat /\ c.toNat <= 57) -> isInName c = true /\ (i = 0 -> isLow c = true) := by
   rintro (h1 | ⟨h1,h2,h3⟩)
   ·exact ⟨by rw [hnm,h1]; rfl,fun _ => h1⟩
   ·exact ⟨by rw [hnm]; simp [h2,h3],fun h => absurd h h1⟩
  have fin : isLow c = true \/ (i ≠ 0 /\ 48 <= c.toNat /\ c.toNat <= 57) -> ∃ m,m < s.length - i /\ ∃ i',avInt .i64 ((i + 1 : Nat) : Int) = avInt .i64 (i' : Nat) /\ i' <= s.length /\ (∀ x ∈ s.take i',isInName x = true) /\ (0 < i' -> (s.head?.map isLow).getD false = true) /\ m = s.length - i' := by
   intro h1
   obtain ⟨h2,h3⟩ := step h1
   refine ⟨s.length - (i + 1),by omega,i + 1,rfl,by omega,List.all_eq_true.1 (go h2),fun _ => gohd h3,rfl⟩
  by_cases hlw : isLow c = true
  ·have hlw2 := hlw
   rw [hlow] at hlw2
   by_cases h95 : c.toNat = 95
   ·have a1 : ((c.toNat : Nat) : Int) = 95 := by omega
    simp [L_ref04_Tag_1,r0,r3,hlt',hx,a1,h95,hw,-Int.natCast_add]
    simpa using fin (.inl hlw)
   ·have b1 : 97 <= c.toNat /\ c.toNat <= 122 := by simpa [h95] using hlw2
    have a1 : (97 : Int) <= c.toNat := by omega
    have a2 : (c.toNat : Int) <= 122 := by omega
    simp [L_ref04_Tag_1,r0,r3,hlt',hx,a1,a2,b1.1,b1.2,hw,-Int.natCast_add]
    simpa using fin (.inl hlw)
  ·have hlw' : isLow c = false := by simpa using hlw
   have hlw2 := hlw'
   rw [hlow] at hlw2
   have h95 : ¬ c.toNat = 95 := by intro h; simp [h] at hlw2
   have hno : ¬ (97 <= c.toNat /\ c.toNat <= 122) := by rintro ⟨h1,h2⟩; simp [h1,h2] at hlw2
   have a1 : ¬ ((c.toNat : Nat) : Int) = 95 := by omega
   have key : ∀ (P : Prop),(97 <= c.toNat -> ¬ c.toNat <= 122 -> P) -> (¬ 97 <= c.toNat -> P) -> P := fun P h1 h2 => by
    by_cases h : 97 <= c.toNat
    ·exact h1 h fun h' => hno ⟨h,h'⟩
    ·exact h2 h
   by_cases h0 : i = 0
   ·have ht := stop0 h0 hlw'
    subst h0
    have hx0 : asidx (avStr s) (.lit (.int .i64 0)) = some (avByte c) := hx
    refine key _ (fun b1 b2 => ?_) (fun b1 => ?_)
    ·have b1' : (97 : Int) <= c.toNat := by omega
     have b2' : ¬ (c.toNat : Int) <= 122 := by omega
     simp [L_ref04_Tag_1,r0,r3,hlt,hlt',hx0,a1,h95,b1,b2,b1',b2',ht]
    ·have b1' : ¬ (97 : Int) <= c.toNat := by omega
     simp [L_ref04_Tag_1,r0,r3,hlt,hlt',hx0,a1,h95,b1,b1',ht]
   ·have h0' : ¬ (i : Int) = 0 := by omega
    by_cases hdig : 48 <= c.toNat /\ c.toNat <= 57
    ·have b1 : ¬ 97 <= c.toNat := by omega
     have b1' : ¬ (97 : Int) <= c.toNat := by omega
     have c1 : ¬ (c.toNat : Int) < 48 := by omega
     have c2 : ¬ (57 : Int) < c.toNat := by omega
     have d1 : ¬ c.toNat < 48 := by omega
     have d2 : ¬ 57 < c.toNat := by omega
     simp [L_ref04_Tag_1,r0,r3,hlt',hx,a1,h95,b1,b1',h0,h0',c1,c2,d1,d2,hw,-Int.natCast_add]
     simpa using fin (.inr ⟨h0,hdig⟩)
    ·have ht := stopN (by rw [hnm,hlw']; simp; omega)
     by_cases c1 : c.toNat < 48
     ·have c1' : (c.toNat : Int) < 48 := by omega
      have b1 : ¬ 97 <= c.toNat := by omega
      have b1' : ¬ (97 : Int) <= c.toNat := by omega
      simp [L_ref04_Tag_1,r0,r3,hlt',hx,a1,h95,b1,b1',h0,h0',c1,c1',ht]
     ·have c1' : ¬ (c.toNat : Int) < 48 := by omega
      have d1 : 57 < c.toNat := by omega
      have d1' : (57 : Int) < c.toNat := by omega
      refine key _ (fun b1 b2 => ?_) (fun b1 => ?_)
      ·have b1' : (97 : Int) <= c.toNat := by omega
       have b2' : ¬ (c.toNat : Int) <= 122 := by omega
       simp [L_ref04_Tag_1,r0,r3,hlt',hx,a1,h95,b1,b2,b1',b2',h0,h0',c1,c1',d1,d1',ht]
      ·have b1' : ¬ (97 : Int) <= c.toNat := by omega
       simp [L_ref04_Tag_1,r0,r3,hlt',hx,a1,h95,b1,b1',h0,h0',c1,c1',d1,d1',ht]
 ·have hlt' : ¬ (i : Int) < s.length := by omega
  have hi2 : i = s.length := by omega
  have hrun : runB isInName s = s.length := by rw [hrd,List.drop_of_length_le (by omega)]; simp [runB]; omega
  have ht : tagB s = !decide (s = []) := by
   unfold tagB
   rw [hrun]
   cases s with
   | nil => rfl
   | cons a r => rw [hp (by simp at hi2; omega)]; simp
  simp [L_ref04_Tag_1,K_ref04_Tag_1,r0,r3,hlt',ht]
  try (cases s <;> simp)
end
end Go.Proofs.Eng
namespace Go.Proofs.Eng
open Go
section
variable {Γ : Sums} {A : Tab} {N : Nat -> Nat}
theorem ref03_IsWord_call' (h : Has Γ A (f_ref03_IsWord N) (C_ref03_IsWord N)) (s : List UInt8) (hl : s.length < 2 ^ 36) (H : Hp) : (lim Γ A).call (f_ref03_IsWord N) [avStr s] H = some (avBool (isWordB s),none) := by
 apply h.call (by rfl)
 by_cases hne : s = []
 ·subst hne
  simp [C_ref03_IsWord,isWordB]
  decide
 ·have hne' : ¬ (s = []) := hne
  simp [C_ref03_IsWord,hne,-Int.natCast_add]
  refine wp_round (fun k ρ H' => H' = { l := H.l,d := none } /\ ∃ i : Nat,ρ 0 = avStr s /\ ρ 3 = avInt .i64 i /\ i <= s.length /\ (s.take i).all az = true /\ k = s.length - i) (n := s.length) ⟨rfl,0,rfl,rfl,by omega,by simp,rfl⟩ ?_
  rintro k ρ H' ⟨rfl,i,r0,r3,hi,ha,rfl⟩
  by_cases hlt : i < s.length
  ·have hlt' : (i : Int) < s.length := by omega
   have hx := asidx_nat (k := .i64) hlt
   have hno : az s[i] = false -> isWordB s = false := by
    intro hz
    unfold isWordB
    rw [decide_eq_false_iff_not]
    intro hm
    have := (words_bwd hm).1
    rw [List.all_eq_true] at this
    rw [this _ (List.getElem_mem hlt)] at hz
    cases hz
   have hgo : az s[i] = true -> (s.take (i + 1)).all az = true := by
    intro hz
    rw [List.take_succ_eq_append_getElem hlt,List.all_append,ha]; simp [hz]
   generalize s[i] = c at *
   by_cases h97 : c.toNat < 97
   ·have h97' : (c.toNat : Int) < 97 := by omega
    have hz := hno (by simp [az]; omega)
    simp [L_ref03_IsWord_1,r0,r3,hlt',hx,h97',hz]
   ·have h97' : ¬ (c.toNat : Int) < 97 := by omega
    by_cases h122 : 122 < c.toNat
    ·have h122' : (122 : Int) < c.toNat := by omega
     have hz := hno (by simp [az]; omega)
     simp [L_ref03_IsWord_1,r0,r3,hlt',hx,h97',h122',hz]
    ·have h122' : ¬ (122 : Int) < c.toNat := by omega
     have hw : IntKind.wrap .i64 ((i : Int) + 1) = ((i + 1 : Nat) : Int) := by rw [wrap64 (by omega) (by omega)]; omega
     have hg := hgo (by simp [az]; omega)
     simp [L_ref03_IsWord_1,r0,r3,hlt',hx,h97',h122',hw,-Int.natCast_add]
     exact ⟨s.length - (i + 1),by omega,i + 1,rfl,by omega,List.all_eq_true.1 hg,rfl⟩
  ·have hlt' : ¬ (i : Int) < s.length := by omega
   rw [List.take_of_length_le (by omega)] at ha
   have hiff := words_iff ha hne
   simp [L_ref03_IsWord_1,K_ref03_IsWord_1,r0,r3,hlt',-Int.natCast_add]
   refine wp_round (fun k ρ H' => H' = { l := H.l,d := none } /\ ∃ j : Nat,ρ 0 = avStr s /\ ρ 4 = avInt .i64 j /\ j <= 90 /\ (∀ i < j,¬ (i + s.length + 2 <= 89 /\ (wordsC.drop i).take (s.length + 2) = 32 :: (s ++ [32]))) /\ k = 90 - j) (n := 90) ⟨rfl,0,?_,?_,by omega,by omega,rfl⟩ ?_
   ·simp [r0]
   ·simp
   rintro k ρ H' ⟨rfl,j,r0,r4,hj,hn,rfl⟩
   have hw1 : IntKind.wrap .i64 ((j : Int) + (s.length : Int)) = ((j + s.length : Nat) : Int) := by rw [wrap64 (by omega) (by omega)]; omega
   have hw2 : IntKind.wrap .i64 (((j + s.length : Nat) : Int) + 2) = ((j + s.length + 2 : Nat) : Int) := by rw [wrap64 (by omega) (by omega)]; omega
   by_cases hle : j + s.length + 2 <= 89
   ·have hle' : ((j + s.length + 2 : Nat) : Int) <= 89 := by omega
    have hcut : aslstr (avStr wordsC) (some (avInt .i64 (j : Int))) (some (avInt .i64 ((j + s.length + 2 : Nat) : Int))) = some (avStr ((wordsC.drop j).take (s.length + 2))) := by
     rw [aslstr_cut (by omega) (by omega) (by show _ <= 89; omega)]
     simp only [Int.toNat_natCast]
     rw [show j + s.length + 2 - j = s.length + 2 from by omega]
    have hadd1 := abin_strAdd (s := mkS [32]) (t := mkS s) (by simp; omega)
    have hadd2 := abin_strAdd (s := mkS ([32] ++ s)) (t := mkS [32]) (by simp; omega)
    simp only [bl_mkS,List.cons_append,List.nil_append] at hadd1 hadd2
    by_cases hm : (wordsC.drop j).take (s.length + 2) = 32 :: (s ++ [32])
    ·have hmem : isWordB s = true := by simpa [isWordB] using hiff.1 ⟨j,hle,hm⟩
     rw [hm] at hcut
     simp [L_ref03_IsWord_2,wordsC_eq,r0,r4,hw1,hw2,hle',hcut,hadd1,hadd2,hmem,-Int.natCast_add]
    ·have hw3 : IntKind.wrap .i64 ((j : Int) + 1) = ((j + 1 : Nat) : Int) := by rw [wrap64 (by omega) (by omega)]; omega
     generalize hgt : (wordsC.drop j).take (s.length + 2) = t at *
     simp [L_ref03_IsWord_2,wordsC_eq,r0,r4,hw1,hw2,hw3,hle',hcut,hadd1,hadd2,hm,-Int.natCast_add]
     refine ⟨90 - (j + 1),by omega,j + 1,rfl,by omega,?_,rfl⟩
     intro i hi h1 h2
     have h1 : i + s.length + 2 <= 89 := by omega
     rcases Nat.lt_or_ge i j with h3 | h3
     ·exact hn i h3 ⟨h1,h2⟩
     ·have : i = j := by omega
      subst this
      rw [hgt] at h2
      exact hm h2
   ·have hle' : ¬ ((j + s.length + 2 : Nat) : Int) <= 89 := by omega
    have hmem : isWordB s = false := by
     unfold isWordB
     rw [decide_eq_false_iff_not,<- hiff]
     rintro ⟨i,h1,h2⟩
     rcases Nat.lt_or_ge i j with h3 | h3
     ·exact hn i h3 ⟨h1,h2⟩
     ·omega
    simp [L_ref03_IsWord_2,K_ref03_IsWord_2,r0,r4,hw1,hw2,hle',hmem,-Int.natCast_add]
theorem ref04_Name_call' (h : Ref04N Γ A N) (h3 : Has Γ A (f_ref03_IsWord N) (C_ref03_IsWord N)) (s : List UInt8) (hl : s.length < 2 ^ 36) (H : Hp) : (lim Γ A).call (f_ref04_Name N) [avStr s] H = some (avBool (isNameB s),none) := by
 have e1 := fun H => ref04_Tag_call h s (by omega) H
 have e2 := fun H => ref03_IsWord_call' h3 s hl H
 rw [nameB_tag]
 apply h.name.call (by rfl)
 cases ht : tagB s
 ·simp [C_ref04_Name,e1,ht]
 ·simp [C_ref04_Name,e1,e2,ht]
end
end Go.Proofs.Eng
namespace Go.Proofs.Eng
open Go

def valN : List UInt8 -> Nat
 | [a] => a.toNat
 | [a,b] => a.toNat % 32 * 64 + b.toNat % 64
 | [a,b,c] => a.toNat % 16 * 4096 + b.toNat % 64 * 64 + c.toNat % 64
 | [a,b,c,d] => a.toNat % 8 * 262144 + b.toNat % 64 * 4096 + c.toNat % 64 * 64 + d.toNat % 64
 | _ => 0
def validN (r : Nat) : Bool := decide (r <= 1114111) && !(decide (55296 <= r) && decide (r <= 57343))
def encN (r : Nat) : List Nat :=
 if r < 128 then [r] else if r < 2048 then [192 + r / 64,128 + r % 64] else if r < 65536 then [224 + r / 4096,128 + r / 64 % 64,128 + r % 64]
 else [240 + r / 262144,128 + r / 4096 % 64,128 + r / 64 % 64,128 + r % 64]
def encB (r : Nat) : List UInt8 := (encN r).map UInt8.ofNat

theorem ofNat_eq {n : Nat} {b : UInt8} : UInt8.ofNat n = b ↔ n % 256 = b.toNat := by
 constructor
 ·rintro rfl; simp
 ·intro h
  apply UInt8.toNat_inj.1
  simpa using h

theorem enc1 (a : UInt8) : (validN (valN [a]) = true /\ encB (valN [a]) = [a]) ↔ a.toNat < 128 := by
 have ha := a.toNat_lt
 simp only [valN]
 constructor
 ·rintro ⟨_,h⟩
  unfold encB encN at h
  split at h
  ·assumption
  ·split at h
   ·simp at h
   ·omega
 ·intro h
  refine ⟨by simp [validN]; omega,?_⟩
  unfold encB encN
  rw [if_pos h]
  simp
theorem enc2 (a c : UInt8) : (validN (valN [a,c]) = true /\ encB (valN [a,c]) = [a,c]) ↔ (194 <= a.toNat /\ a.toNat < 224 /\ 128 <= c.toNat /\ c.toNat < 192) := by
 have ha := a.toNat_lt
 have hc := c.toNat_lt
 simp only [valN]
 constructor
 ·rintro ⟨_,h⟩
  unfold encB encN at h
  split at h
  ·simp at h
  ·split at h
   ·simp only [List.map_cons,List.map_nil,List.cons.injEq,and_true,ofNat_eq] at h
    omega
   ·split at h <;> simp at h
 ·intro h
  refine ⟨by simp [validN]; omega,?_⟩
  unfold encB encN
  rw [if_neg (by omega),if_pos (by omega)]
  simp only [List.map_cons,List.map_nil,List.cons.injEq,and_true,ofNat_eq]
  omega
theorem enc3 (a c d : UInt8) : (validN (valN [a,c,d]) = true /\ encB (valN [a,c,d]) = [a,c,d]) ↔ (224 <= a.toNat /\ a.toNat < 240 /\ 128 <= c.toNat /\ c.toNat < 192 /\ 128 <= d.toNat /\ d.toNat < 192 /\ 2048 <= valN [a,c,d] /\ (valN [a,c,d] < 55296 \/ 57343 < valN [a,c,d])) := by
 have ha := a.toNat_lt
 have hc := c.toNat_lt
 have hd := d.toNat_lt
 simp only [valN]
 constructor
 ·rintro ⟨hv,h⟩
  unfold encB encN at h
  split at h
  ·simp at h
  ·split at h
   ·simp at h
   ·split at h
    ·simp only [List.map_cons,List.map_nil,List.cons.injEq,and_true,ofNat_eq] at h
     simp [validN] at hv
     omega
    ·simp at h
 ·intro h
  refine ⟨by simp [validN]; omega,?_⟩
  unfold encB encN
  rw [if_neg (by omega),if_neg (by omega),if_pos (by omega)]
  simp only [List.map_cons,List.map_nil,List.cons.injEq,and_true,ofNat_eq]
  omega
theorem enc4 (a c d e : UInt8) : (validN (valN [a,c,d,e]) = true /\ encB (valN [a,c,d,e]) = [a,c,d,e]) ↔ (240 <= a.toNat /\ a.toNat < 248 /\ 128 <= c.toNat /\ c.toNat < 192 /\ 128 <= d.toNat /\ d.toNat < 192 /\ 128 <= e.toNat /\ e.toNat < 192 /\ 65536 <= valN [a,c,d,e] /\ valN [a,c,d,e] <= 1114111) := by
 have ha := a.toNat_lt
 have hc := c.toNat_lt
 have hd := d.toNat_lt
 have he := e.toNat_lt
 simp only [valN]
 constructor
 ·rintro ⟨hv,h⟩
  unfold encB encN at h
  split at h
  ·simp at h
  ·split at h
   ·simp at h
   ·split at h
    ·simp at h
    ·simp only [List.map_cons,List.map_nil,List.cons.injEq,and_true,ofNat_eq] at h
     simp [validN] at hv
     omega
 ·intro h
  refine ⟨by simp [validN]; omega,?_⟩
  unfold encB encN
  rw [if_neg (by omega),if_neg (by omega),if_neg (by omega)]
  simp only [List.map_cons,List.map_nil,List.cons.injEq,and_true,ofNat_eq]
  omega

theorem lead_cases (a : UInt8) : (a.toNat < 128 /\ lead a = 0) \/ (128 <= a.toNat /\ a.toNat < 192 /\ lead a = 1) \/ (192 <= a.toNat /\ a.toNat < 224 /\ lead a = 2) \/ (224 <= a.toNat /\ a.toNat < 240 /\ lead a = 3) \/ (240 <= a.toNat /\ lead a = 4) := by
 unfold lead
 (repeat' split) <;> omega

theorem rfirst_snd (a : UInt8) (l : List UInt8) : (rfirst (a :: l)).2 = 0 \/ ((rfirst (a :: l)).2 = 1 /\ lead a = 0) \/ ((rfirst (a :: l)).2 = lead a /\ 2 <= lead a) := by
 simp only [rfirst]
 rcases lead_cases a with ⟨h,h'⟩ | ⟨h,_,h'⟩ | ⟨h,_,h'⟩ | ⟨h,_,h'⟩ | ⟨h,h'⟩
 ·rw [if_pos h]; exact .inr (.inl ⟨rfl,h'⟩)
 ·rw [if_neg (by omega),if_pos (by omega)]; exact .inl rfl
 all_goals
  rw [if_neg (by omega)]
  split
  ·exact .inl rfl
  ·split
   ·split
    ·exact .inr (.inr ⟨rfl,by omega⟩)
    ·exact .inl rfl
   ·exact .inl rfl

theorem enc_iff (b : List UInt8) (n : Nat) (h1 : 1 <= n) (h4 : n <= 4) (hl : n <= b.length) : (validN (valN (b.take n)) = true /\ encB (valN (b.take n)) = b.take n) ↔ rfirst b = ((valN (b.take n) : Int),(n : Int)) := by
 have bad : ∀ (a : UInt8) (l : List UInt8) (m : Nat),1 <= m -> (m = 1 -> lead a ≠ 0) -> (2 <= m -> lead a ≠ m) -> ∀ x : Int,rfirst (a :: l) ≠ (x,(m : Int)) := by
  intro a l m hm h0 h2 x e
  have := rfirst_snd a l
  rw [e] at this
  simp only [] at this
  omega
 match n,b,hl with
 | 1,a :: l,_ =>
  simp only [List.take_succ_cons,List.take_zero]
  rw [enc1]
  constructor
  ·intro h; simp [rfirst,h,valN]
  ·intro h
   rcases lead_cases a with ⟨h2,_⟩ | ⟨_,_,h2⟩ | ⟨_,_,h2⟩ | ⟨_,_,h2⟩ | ⟨_,h2⟩
   ·exact h2
   all_goals exact absurd h (bad a l 1 (by omega) (by omega) (by omega) _)
 | 2,a :: c :: l,_ =>
  simp only [List.take_succ_cons,List.take_zero]
  rw [enc2]
  have ha := a.toNat_lt
  rcases lead_cases a with ⟨h2,h3⟩ | ⟨h2,h2',h3⟩ | ⟨h2,h2',h3⟩ | ⟨h2,h2',h3⟩ | ⟨h2,h3⟩
  ·exact ⟨fun h => by omega,fun h => absurd h (bad a _ 2 (by omega) (by omega) (by omega) _)⟩
  ·exact ⟨fun h => by omega,fun h => absurd h (bad a _ 2 (by omega) (by omega) (by omega) _)⟩
  ·simp only [rfirst,h3,headR,accB,runeSign,runeSize,isCont,valN,List.take_succ_cons,List.take_zero,List.all_cons,List.all_nil,List.length_cons]
   rw [if_neg (by omega),if_neg (by omega)]
   simp only [Bool.and_true,Bool.and_eq_true,Bool.or_eq_true,decide_eq_true_eq]
   by_cases hc : 128 <= c.toNat /\ c.toNat < 192
   ·rw [if_pos hc]
    by_cases hv : 194 <= a.toNat
    ·rw [if_pos (by refine ⟨?_,?_⟩ <;> (try (repeat' split)) <;> omega)]
     simp; omega
    ·rw [if_neg (by rintro ⟨_,h⟩; (repeat' split at h) <;> omega)]
     simp; omega
   ·rw [if_neg hc]
    simp; omega
  ·exact ⟨fun h => by omega,fun h => absurd h (bad a _ 2 (by omega) (by omega) (by omega) _)⟩
  ·exact ⟨fun h => by omega,fun h => absurd h (bad a _ 2 (by omega) (by omega) (by omega) _)⟩
 | 3,a :: c :: d :: l,_ =>
  simp only [List.take_succ_cons,List.take_zero]
  rw [enc3]
  have ha := a.toNat_lt
  rcases lead_cases a with ⟨h2,h3⟩ | ⟨h2,h2',h3⟩ | ⟨h2,h2',h3⟩ | ⟨h2,h2',h3⟩ | ⟨h2,h3⟩
  ·exact ⟨fun h => by omega,fun h => absurd h (bad a _ 3 (by omega) (by omega) (by omega) _)⟩
  ·exact ⟨fun h => by omega,fun h => absurd h (bad a _ 3 (by omega) (by omega) (by omega) _)⟩
  ·exact ⟨fun h => by omega,fun h => absurd h (bad a _ 3 (by omega) (by omega) (by omega) _)⟩
  ·simp only [rfirst,h3,headR,accB,runeSign,runeSize,isCont,valN,List.take_succ_cons,List.take_zero,List.all_cons,List.all_nil,List.length_cons]
   rw [if_neg (by omega),if_neg (by omega)]
   simp only [Bool.and_true,Bool.and_eq_true,Bool.or_eq_true,decide_eq_true_eq]
   by_cases hc : (128 <= c.toNat /\ c.toNat < 192) /\ 128 <= d.toNat /\ d.toNat < 192
   ·rw [if_pos hc]
    by_cases hv : 2048 <= a.toNat % 16 * 4096 + c.toNat % 64 * 64 + d.toNat % 64 /\ (a.toNat % 16 * 4096 + c.toNat % 64 * 64 + d.toNat % 64 < 55296 \/ 57343 < a.toNat % 16 * 4096 + c.toNat % 64 * 64 + d.toNat % 64)
    ·rw [if_pos (by refine ⟨?_,?_⟩ <;> (try (repeat' split)) <;> omega)]
     simp; omega
    ·rw [if_neg (by rintro ⟨_,h⟩; (repeat' split at h) <;> omega)]
     simp; omega
   ·rw [if_neg hc]
    simp; omega
  ·exact ⟨fun h => by omega,fun h => absurd h (bad a _ 3 (by omega) (by omega) (by omega) _)⟩
 | 4,a :: c :: d :: e :: l,_ =>
  simp only [List.take_succ_cons,List.take_zero]
  rw [enc4]
  have ha := a.toNat_lt
  rcases lead_cases a with ⟨h2,h3⟩ | ⟨h2,h2',h3⟩ | ⟨h2,h2',h3⟩ | ⟨h2,h2',h3⟩ | ⟨h2,h3⟩
  ·exact ⟨fun h => by omega,fun h => absurd h (bad a _ 4 (by omega) (by omega) (by omega) _)⟩
  ·exact ⟨fun h => by omega,fun h => absurd h (bad a _ 4 (by omega) (by omega) (by omega) _)⟩
  ·exact ⟨fun h => by omega,fun h => absurd h (bad a _ 4 (by omega) (by omega) (by omega) _)⟩
  ·exact ⟨fun h => by omega,fun h => absurd h (bad a _ 4 (by omega) (by omega) (by omega) _)⟩
  ·by_cases h248 : 248 <= a.toNat
   ·simp only [rfirst]
    rw [if_neg (by omega),if_pos (by omega)]
    simp; omega
   ·simp only [rfirst,h3,headR,accB,runeSign,runeSize,isCont,valN,List.take_succ_cons,List.take_zero,List.all_cons,List.all_nil,List.length_cons]
    rw [if_neg (by omega),if_neg (by omega)]
    simp only [Bool.and_true,Bool.and_eq_true,Bool.or_eq_true,decide_eq_true_eq]
    by_cases hc : (128 <= c.toNat /\ c.toNat < 192) /\ (128 <= d.toNat /\ d.toNat < 192) /\ 128 <= e.toNat /\ e.toNat < 192
    ·rw [if_pos hc]
     by_cases hv : 65536 <= a.toNat % 8 * 262144 + c.toNat % 64 * 4096 + d.toNat % 64 * 64 + e.toNat % 64 /\ a.toNat % 8 * 262144 + c.toNat % 64 * 4096 + d.toNat % 64 * 64 + e.toNat % 64 <= 1114111
     ·rw [if_pos (by refine ⟨?_,?_⟩ <;> (try (repeat' split)) <;> omega)]
      simp; omega
     ·rw [if_neg (by rintro ⟨hs,h⟩; (repeat' split at h) <;> omega)]
      simp; omega
    ·rw [if_neg hc]
     simp; omega

section
variable {Γ : Sums} {A : Tab} {N : Nat -> Nat}

theorem ref01_value_call (h : Has Γ A (f_ref01_value N) (C_ref01_value N)) (x : AV) (l : List UInt8) (H : Hp) (hx : VBytes H x l) (h1 : 1 <= l.length) (h4 : l.length <= 4) : (lim Γ A).call (f_ref01_value N) [x] H = some (avInt .i64 (valN l),none) := by
 apply h.call (by rfl)
 replace hx : VBytes { l := H.l,d := none } x l := Vw.dd hx none
 have hlen := hx.len
 match l,h1,h4 with
 | [a],_,_ =>
  obtain ⟨p0,a0,b0⟩ := VBytes.at' hx (k := .i64) (i := 0) (by omega) (by simp)
  have ha := a.toNat_lt
  simp at a0 b0 hlen
  simp (disch := omega) [C_ref01_value,hlen,a0,b0,avByte,wrap64,valN]
 | [a,b],_,_ =>
  obtain ⟨p0,a0,b0⟩ := VBytes.at' hx (k := .i64) (i := 0) (by omega) (by simp)
  obtain ⟨p1,a1,b1⟩ := VBytes.at' hx (k := .i64) (i := 1) (by omega) (by simp)
  have ha := a.toNat_lt
  have hb := b.toNat_lt
  simp at a0 b0 a1 b1 hlen
  simp (disch := omega) [C_ref01_value,hlen,a0,b0,a1,b1,avByte,wrap64,valN,Int.tmod_eq_emod_of_nonneg]
 | [a,b,c],_,_ =>
  obtain ⟨p0,a0,b0⟩ := VBytes.at' hx (k := .i64) (i := 0) (by omega) (by simp)
  obtain ⟨p1,a1,b1⟩ := VBytes.at' hx (k := .i64) (i := 1) (by omega) (by simp)
  obtain ⟨p2,a2,b2⟩ := VBytes.at' hx (k := .i64) (i := 2) (by omega) (by simp)
  have ha := a.toNat_lt
  have hb := b.toNat_lt
  have hc := c.toNat_lt
  simp at a0 b0 a1 b1 a2 b2 hlen
  simp (disch := omega) [C_ref01_value,hlen,a0,b0,a1,b1,a2,b2,avByte,wrap64,valN,Int.tmod_eq_emod_of_nonneg]
 | [a,b,c,d],_,_ =>
  obtain ⟨p0,a0,b0⟩ := VBytes.at' hx (k := .i64) (i := 0) (by omega) (by simp)
  obtain ⟨p1,a1,b1⟩ := VBytes.at' hx (k := .i64) (i := 1) (by omega) (by simp)
  obtain ⟨p2,a2,b2⟩ := VBytes.at' hx (k := .i64) (i := 2) (by omega) (by simp)
  obtain ⟨p3,a3,b3⟩ := VBytes.at' hx (k := .i64) (i := 3) (by omega) (by simp)
  have ha := a.toNat_lt
  have hb := b.toNat_lt
  have hc := c.toNat_lt
  have hd := d.toNat_lt
  simp at a0 b0 a1 b1 a2 b2 a3 b3 hlen
  simp (disch := omega) [C_ref01_value,hlen,a0,b0,a1,b1,a2,b2,a3,b3,avByte,wrap64,valN,Int.tmod_eq_emod_of_nonneg]

theorem ref01_Encode_call (h : Has Γ A (f_ref01_Encode N) (C_ref01_Encode N)) (r : Int) (H : Hp) : (lim Γ A).call (f_ref01_Encode N) [avInt .i64 r] H =
  some (if 0 <= r /\ validN r.toNat = true then .tup [.sl 1 ((encB r.toNat).map avByte),avBool true] else .tup [avNilS,avBool false],none) := by
 apply h.call (by rfl)
 by_cases h0 : r < 0
 ·have : ¬ (0 <= r) := by omega
  simp [C_ref01_Encode,h0,this]
  rw [settleZ_frz (u := .tup [avNilS,avBool false]) rfl rfl]
 ·obtain ⟨n,rfl⟩ : ∃ n : Nat,r = n := ⟨r.toNat,by omega⟩
  have h0' : ¬ ((n : Int) < 0) := by omega
  by_cases h1 : 1114111 < (n : Int)
  ·have hv : validN n = false := by simp [validN]; omega
   simp [C_ref01_Encode,h0',h1,hv]
   rw [settleZ_frz (u := .tup [avNilS,avBool false]) rfl rfl]
  ·by_cases h2 : 55296 <= (n : Int) /\ (n : Int) <= 57343
   ·have hv : validN n = false := by simp [validN]; omega
    simp [C_ref01_Encode,h0',h1,h2.1,h2.2,hv]
    rw [settleZ_frz (u := .tup [avNilS,avBool false]) rfl rfl]
   ·have hv : validN n = true := by simp [validN]; omega
    have hn0 : (0 : Int) <= n := by omega
    by_cases h5 : n < 128
    ·have g1 : (n : Int) < 128 := by omega
     have g2 : ¬ 55296 <= (n : Int) := by omega
     simp (disch := omega) [C_ref01_Encode,h0',h1,g1,g2,hv,wrap8,true_and]
     refine (settleZ_row (es := [avInt .u8 ((n : Int) % 256)]) (t := t_uint8 N) rfl rfl (by simp)).trans ?_
     simp [encB,encN,h5,avByte]
    ·by_cases h6 : n < 2048
     ·have g1 : ¬ (n : Int) < 128 := by omega
      have g3 : (n : Int) < 2048 := by omega
      have g2 : ¬ 55296 <= (n : Int) := by omega
      simp (disch := omega) [C_ref01_Encode,h0',h1,g1,g2,g3,hv,wrap8,wrap64,true_and,Int.tmod_eq_emod_of_nonneg,Int.tdiv_eq_ediv_of_nonneg]
      refine (settleZ_row (es := [avInt .u8 ((192 + (n : Int) / 64) % 256),avInt .u8 ((128 + (n : Int) % 64) % 256)]) (t := t_uint8 N) rfl rfl (by simp)).trans ?_
      simp [encB,encN,h5,h6,avByte]
     ·have g1 : ¬ (n : Int) < 128 := by omega
      have g3 : ¬ (n : Int) < 2048 := by omega
      by_cases h7 : n < 65536
      ·have g4 : (n : Int) < 65536 := by omega
       have fin : ∀ H',H' = halloc { l := H.l,d := none } (.arr 1 [avInt .u8 ((224 + (n : Int) / 4096) % 256),avInt .u8 ((128 + (n : Int) / 64 % 64) % 256),avInt .u8 ((128 + (n : Int) % 64) % 256)] (t_uint8 N)) ->
         settleZ true H (.tup [.ra 1 H.l.length 0 3,avBool true]) H' = (.tup [.sl 1 ((encB n).map avByte),avBool true],none) := by
        rintro H' rfl
        refine (settleZ_row (es := [avInt .u8 ((224 + (n : Int) / 4096) % 256),avInt .u8 ((128 + (n : Int) / 64 % 64) % 256),avInt .u8 ((128 + (n : Int) % 64) % 256)]) (t := t_uint8 N) rfl rfl (by simp)).trans ?_
        simp [encB,encN,h5,h6,h7,avByte]
       by_cases h3 : 55296 <= (n : Int)
       ·have h4 : ¬ (n : Int) <= 57343 := by omega
        simp (disch := omega) [C_ref01_Encode,h0',h1,g1,h3,h4,g3,g4,hv,wrap8,wrap64,true_and,Int.tmod_eq_emod_of_nonneg,Int.tdiv_eq_ediv_of_nonneg]
        exact fin _ rfl
       ·simp (disch := omega) [C_ref01_Encode,h0',h1,g1,h3,g3,g4,hv,wrap8,wrap64,true_and,Int.tmod_eq_emod_of_nonneg,Int.tdiv_eq_ediv_of_nonneg]
        exact fin _ rfl
      ·have g4 : ¬ (n : Int) < 65536 := by omega
       have h3 : 55296 <= (n : Int) := by omega
       have h4 : ¬ (n : Int) <= 57343 := by omega
       simp (disch := omega) [C_ref01_Encode,h0',h1,g1,h3,h4,g3,g4,hv,wrap8,wrap64,true_and,Int.tmod_eq_emod_of_nonneg,Int.tdiv_eq_ediv_of_nonneg]
       refine (settleZ_row (es := [avInt .u8 ((240 + (n : Int) / 262144) % 256),avInt .u8 ((128 + (n : Int) / 4096 % 64) % 256),avInt .u8 ((128 + (n : Int) / 64 % 64) % 256),avInt .u8 ((128 + (n : Int) % 64) % 256)]) (t := t_uint8 N) rfl rfl (by simp)).trans ?_
       simp [encB,encN,h5,h6,h7,avByte]

theorem rfirst_val {b : List UInt8} {n : Nat} (h1 : 1 <= n) (h4 : n <= 4) (hl : n <= b.length) (h : (rfirst b).2 = n) : rfirst b = ((valN (b.take n) : Int),(n : Int)) := by
 refine Prod.ext ?_ h
 cases b with
 | nil => simp at hl; omega
 | cons a l =>
  have ha := a.toNat_lt
  simp only [rfirst] at h ⊢
  split at h
  ·rename_i q; rw [if_pos q]; simp only [] at h; have : n = 1 := by omega
   subst this; simp [valN]
  ·rename_i q
   rw [if_neg q]
   split at h
   ·simp at h; omega
   ·rename_i q2
    rw [if_neg q2]
    split at h
    ·rename_i q3
     rw [if_pos q3]
     split at h
     ·rename_i q4
      rw [if_pos q4]
      simp only [] at h
      have hln : lead a = n := by omega
      rw [hln] at q4 q2
      simp only [hln,headR]
      have hn : n = 2 \/ n = 3 \/ n = 4 := by omega
      rcases hn with rfl | rfl | rfl
      ·obtain ⟨c,l,rfl⟩ : ∃ c l',l = c :: l' := by cases l with | nil => simp at hl | cons c l => exact ⟨c,l,rfl⟩
       simp [accB,valN]
      ·obtain ⟨c,l,rfl⟩ : ∃ c l',l = c :: l' := by cases l with | nil => simp at hl | cons c l => exact ⟨c,l,rfl⟩
       obtain ⟨d,l,rfl⟩ : ∃ c l',l = c :: l' := by cases l with | nil => simp at hl | cons c l => exact ⟨c,l,rfl⟩
       simp [accB,valN]; omega
      ·obtain ⟨c,l,rfl⟩ : ∃ c l',l = c :: l' := by cases l with | nil => simp at hl | cons c l => exact ⟨c,l,rfl⟩
       obtain ⟨d,l,rfl⟩ : ∃ c l',l = c :: l' := by cases l with | nil => simp at hl | cons c l => exact ⟨c,l,rfl⟩
       obtain ⟨e,l,rfl⟩ : ∃ c l',l = c :: l' := by cases l with | nil => simp at hl | cons c l => exact ⟨c,l,rfl⟩
       simp [accB,valN]; omega
     ·simp at h; omega
    ·simp at h; omega

structure Ref01 (Γ : Sums) (A : Tab) (N : Nat -> Nat) : Prop where
 value : Has Γ A (f_ref01_value N) (C_ref01_value N)
 enc : Has Γ A (f_ref01_Encode N) (C_ref01_Encode N)
 first : Has Γ A (f_ref01_First N) (C_ref01_First N)
 signs : Has Γ A (f_ref01_Signs N) (C_ref01_Signs N)

theorem ref01_First_call (h : Ref01 Γ A N) (x : AV) (b : List UInt8) (H : Hp) (hx : VBytes H x b) (hbl : b.length < 2 ^ 62) : (lim Γ A).call (f_ref01_First N) [x] H = some (.tup [avInt .i64 (rfirst b).1,avInt .i64 (rfirst b).2],none) := by
 apply h.first.call (by rfl)
 replace hx : VBytes { l := H.l,d := none } x b := Vw.dd hx none
 have hlen := hx.len
 rw [List.length_map] at hlen
 simp [C_ref01_First]
 refine wp_round (fun k ρ H' => H' = { l := H.l,d := none } /\ ∃ n : Nat,ρ 0 = x /\ ρ 4 = avInt .i64 n /\ 1 <= n /\ n <= 5 /\ n <= b.length + 1 /\ (∀ m : Nat,1 <= m -> m < n -> (rfirst b).2 ≠ m) /\ k = 5 - n) (n := 4) ⟨rfl,1,by simp,by simp,by omega,by omega,by omega,by omega,rfl⟩ ?_
 rintro k ρ H' ⟨rfl,n,r0,r4,hn1,hn5,hnl,hno,rfl⟩
 have stop : ¬ (n <= 4 /\ n <= b.length) -> rfirst b = (0,0) := by
  intro hs
  have hz : (rfirst b).2 = 0 := by
   rcases rfirst_bound b with hz | ⟨h1,h2,h3⟩
   ·exact hz
   ·exfalso
    have := hno (rfirst b).2.toNat (by omega) (by omega)
    omega
  cases b with
  | nil => rfl
  | cons a l =>
   simp only [rfirst] at hz ⊢
   split at hz
   ·simp at hz
   ·rename_i q1
    rw [if_neg q1]
    split at hz
    ·rename_i q2; rw [if_pos q2]
    ·rename_i q2
     rw [if_neg q2]
     split at hz
     ·rename_i q3
      rw [if_pos q3]
      split at hz
      ·simp only [] at hz; omega
      ·rename_i q4; rw [if_neg q4]
     ·rename_i q3; rw [if_neg q3]
 by_cases hn4 : n <= 4
 ·have g4 : (n : Int) <= 4 := by omega
  by_cases hnb : n <= b.length
  ·have gb : (n : Int) <= b.length := by omega
   obtain ⟨y,hy1,hy2⟩ := Vw.upto hx (k' := .i64) (j := (n : Int)) (by omega) (by simp; omega)
   rw [Int.toNat_natCast,<- List.map_take] at hy2
   have htl : (b.take n).length = n := by simp; omega
   have e1 := ref01_value_call h.value y (b.take n) { l := H.l,d := none } hy2 (by omega) (by omega)
   have e2 := ref01_Encode_call h.enc (valN (b.take n)) { l := H.l,d := none }
   have hei := enc_iff b n hn1 hn4 hnb
   have hel := VBytes.str hy2
   have hw : IntKind.wrap .i64 ((n : Int) + 1) = ((n + 1 : Nat) : Int) := by rw [wrap64 (by omega) (by omega)]; omega
   have hv0 : (0 : Int) <= valN (b.take n) := by omega
   by_cases hv : validN (valN (b.take n)) = true
   ·rw [if_pos ⟨hv0,by simpa using hv⟩,Int.toNat_natCast] at e2
    by_cases he : encB (valN (b.take n)) = b.take n
    ·have hr := hei.1 ⟨hv,he⟩
     simp [L_ref01_First_1,r0,r4,hlen,g4,gb,hy1,e1,e2,hel,he,hr,-List.map_take]
    ·have hne := he
     simp [L_ref01_First_1,r0,r4,hlen,g4,gb,hy1,e1,e2,hel,hne,hw,-Int.natCast_add]
     refine ⟨5 - (n + 1),by omega,n + 1,rfl,by omega,by omega,by omega,?_,rfl⟩
     intro m hm1 hm2
     by_cases hm : m = n
     ·subst hm
      intro hc
      exact he (hei.2 (rfirst_val hn1 hn4 hnb hc)).2
     ·exact hno m hm1 (by omega)
   ·rw [if_neg (by rintro ⟨_,h⟩; exact hv (by simpa using h))] at e2
    simp [L_ref01_First_1,r0,r4,hlen,g4,gb,hy1,e1,e2,hw,-Int.natCast_add]
    refine ⟨5 - (n + 1),by omega,n + 1,rfl,by omega,by omega,by omega,?_,rfl⟩
    intro m hm1 hm2
    by_cases hm : m = n
    ·subst hm
     intro hc
     exact hv (hei.2 (rfirst_val hn1 hn4 hnb hc)).1
    ·exact hno m hm1 (by omega)
  ·have gb : ¬ (n : Int) <= b.length := by omega
   simp [L_ref01_First_1,r0,r4,hlen,g4,gb,K_ref01_First_1,stop (by omega)]
 ·have g4 : ¬ (n : Int) <= 4 := by omega
  simp [L_ref01_First_1,r0,r4,hlen,g4,K_ref01_First_1,stop (by omega)]
end
end Go.Proofs.Eng
namespace Go.Proofs.Eng
open Go
section
variable {Γ : Sums} {A : Tab} {N : Nat -> Nat}

theorem rstop_fuel : ∀ (k j at' : Nat) (b : List UInt8),b.length <= k -> b.length <= j -> rstop k at' b = rstop j at' b
 | 0,0,_,_,_,_ => rfl
 | 0,j + 1,at',b,h,_ => by
  have : b = [] := by cases b with | nil => rfl | cons => simp at h
  subst this; simp [rstop,rfirst]
 | k + 1,0,at',b,_,h => by
  have : b = [] := by cases b with | nil => rfl | cons => simp at h
  subst this; simp [rstop,rfirst]
 | k + 1,j + 1,at',b,h1,h2 => by
  simp only [rstop]
  rcases rfirst_bound b with h | ⟨h3,h4,h5⟩
  ·simp [h]
  ·have hne : ¬ (rfirst b).2 = 0 := by omega
   rw [if_neg hne,if_neg hne,rstop_fuel k j _ _ (by simp; omega) (by simp; omega)]
theorem rstop_stop {at' : Nat} {b : List UInt8} (h : (rfirst b).2 = 0) (k : Nat) : rstop k at' b = at' := by
 cases k with
 | zero => rfl
 | succ k => simp [rstop,h]
theorem rstop_step {at' : Nat} {b : List UInt8} (h : (rfirst b).2 ≠ 0) : rstop b.length at' b = rstop (b.drop (rfirst b).2.toNat).length (at' + (rfirst b).2.toNat) (b.drop (rfirst b).2.toNat) := by
 rcases rfirst_bound b with h' | ⟨h3,h4,h5⟩
 ·exact absurd h' h
 ·obtain ⟨k,hk⟩ : ∃ k,b.length = k + 1 := ⟨b.length - 1,by omega⟩
  rw [hk]
  simp only [rstop]
  rw [if_neg h,rstop_fuel k _ _ _ (by simp; omega) (Nat.le_refl _)]

theorem ref01_Signs_call (h : Ref01 Γ A N) (x : AV) (b : List UInt8) (H : Hp) (hx : VBytes H x b) (hbl : b.length < 2 ^ 36) :
  ∃ p s hh os1 os2,(lim Γ A).call (f_ref01_Signs N) [x] H = some (.tup [p,s,avInt .i64 (stopOf b)],hh) /\ Row (t_int N) 1 p ((allOf b).map fun q => avInt .i64 q.1) os1 /\ Row (t_int N) 1 s ((allOf b).map fun q => avInt .i64 q.2) os2 /\ Adds H hh (os1 ++ os2) := by
 have hlen := Vw.len hx
 rw [List.length_map] at hlen
 obtain ⟨R,hR⟩ : ∃ R : AV × Option Hp -> Prop,R = fun r => ∃ p s hh os1 os2,r = (.tup [p,s,avInt .i64 (stopOf b)],hh) /\ Row (t_int N) 1 p ((allOf b).map fun q => avInt .i64 q.1) os1 /\ Row (t_int N) 1 s ((allOf b).map fun q => avInt .i64 q.2) os2 /\ Adds H hh (os1 ++ os2) := ⟨_,rfl⟩
 have key : ∃ r,(lim Γ A).call (f_ref01_Signs N) [x] H = some r /\ R r := by
  apply h.signs.callP (by rfl)
  simp [C_ref01_Signs]
  refine wp_round (fun k ρ H' => ∃ (i at' : Nat) (p s : AV) (os1 os2 : List (Nat × AObj)),ρ 0 = x /\ ρ 5 = p /\ ρ 6 = s /\ ρ 7 = avInt .i64 at' /\ at' <= b.length /\ i <= at' /\
    Row (t_int N) 1 p (((allOf b).take i).map fun q => avInt .i64 q.1) os1 /\ Row (t_int N) 1 s (((allOf b).take i).map fun q => avInt .i64 q.2) os2 /\ Loc H H' (os1 ++ os2) /\
    (allOf b).drop i = rsigns (b.drop at').length at' (b.drop at') /\ rstop (b.drop at').length at' (b.drop at') = stopOf b /\ k = b.length - at') (n := b.length) ?_ ?_
  ·refine ⟨0,0,_,_,[(H.l.length,.arr 1 [] (t_int N))],[(H.l.length + 1,.arr 1 [] (t_int N))],by simp,by simp; rfl,by simp; rfl,by simp,by omega,by omega,?_,?_,?_,by simp [allOf],by simp [stopOf],by simp⟩
   ·exact Row.mk _ _ _ []
   ·exact Row.mk _ _ _ []
   ·have := (((Loc.start H).alloc (.arr 1 [] (t_int N))).alloc (.arr 1 [] (t_int N)))
    simp at this
    exact this.perm (List.Perm.swap _ _ _)
  ·rintro k ρ H' ⟨i,at',p,s,os1,os2,r0,r5,r6,r7,hat,hia,hp,hs,hL,hd,hst,rfl⟩
   have fin' : ∀ ρ : Rho,ρ 0 = x -> ρ 5 = p -> ρ 6 = s -> ρ 7 = avInt .i64 at' -> rsigns (b.drop at').length at' (b.drop at') = [] -> rstop (b.drop at').length at' (b.drop at') = at' -> wp (lim Γ A) none (K_ref01_Signs_1 N) ρ H' (Ends [.inl 2,.inl 3,.inl 4] false H R) := by
    intro ρ r0 r5 r6 r7 e1 e2
    rw [e1] at hd
    rw [e2] at hst
    have hti : (allOf b).take i = allOf b := List.take_of_length_le (List.drop_eq_nil_iff.1 hd)
    rw [hti] at hp hs
    obtain ⟨hh,f1,f2⟩ := settle_adds (v := .tup [p,s,avInt .i64 at']) hL (by
     intro hu
     simp only [AV.under,AV.unders,Bool.and_true,Bool.and_eq_true] at hu
     rw [hp.under hL (fun q hq => List.mem_append_left _ hq) hu.1,hs.under hL (fun q hq => List.mem_append_right _ hq) hu.2]; rfl)
    simp [K_ref01_Signs_1,r5,r6,r7]
    rw [f1,hR,hst]
    exact ⟨p,s,hh,os1,os2,rfl,hp,hs,f2⟩
   by_cases hlt : at' < b.length
   ·have hlt' : (at' : Int) < b.length := by omega
    have hxv := Vw.loc hx hL
    obtain ⟨y,hy1,hy2⟩ := Vw.from' hxv (k := .i64) (i := (at' : Int)) (by omega) (by simp; omega)
    rw [Int.toNat_natCast,<- List.map_drop] at hy2
    have hf := ref01_First_call h y (b.drop at') H' hy2 (by rw [List.length_drop]; omega)
    rcases rfirst_bound (b.drop at') with hz | ⟨h3,h4,h5⟩
    ·simp [L_ref01_Signs_1,r0,r5,r6,r7,hlen,hlt',hy1,hf,hz]
     refine fin' _ ?_ ?_ ?_ ?_ (rsigns_stop hz _) ?_ <;> try simp [r0,r5,r6,r7]
     exact rstop_stop hz _
    ·have hz : ¬ (rfirst (b.drop at')).2 = 0 := by omega
     have hd2 := hd
     rw [rsigns_step hz] at hd2
     have hi : i < (allOf b).length := by
      rcases Nat.lt_or_ge i (allOf b).length with h | h
      ·exact h
      ·rw [List.drop_eq_nil_of_le h] at hd2; cases hd2
     rw [List.drop_eq_getElem_cons hi] at hd2
     injection hd2 with hs1 hs2
     have htk : (allOf b).take (i + 1) = (allOf b).take i ++ [(at',(rfirst (b.drop at')).1)] := by rw [List.take_succ_eq_append_getElem hi,hs1]
     rw [List.length_drop] at h5
     have hil : ((allOf b).take i).length = i := by simp; omega
     have hL1 := (hL.alloc (.arr 1 [avInt .i64 at'] (t_int N))).perm (os' := os1 ++ (H'.l.length,.arr 1 [avInt .i64 at'] (t_int N)) :: os2) List.perm_middle.symm
     obtain ⟨p2,H2,os1',a1,a2,a3⟩ := hp.append (bytes := 8) (ys := [avInt .i64 at']) hL1 (by simp) (by simp [roomMax]; omega) (by simp)
     have hL2 := (a3.perm (os' := os2 ++ (H'.l.length,.arr 1 [avInt .i64 at'] (t_int N)) :: os1') (by
      refine (List.perm_append_comm).trans ?_
      simp only [List.cons_append]
      exact List.perm_middle.symm)).alloc (.arr 1 [avInt .i64 (rfirst (b.drop at')).1] (t_int N))
     have hL3 := hL2.perm (os' := os2 ++ (H2.l.length,.arr 1 [avInt .i64 (rfirst (b.drop at')).1] (t_int N)) :: (H'.l.length,.arr 1 [avInt .i64 at'] (t_int N)) :: os1') List.perm_middle.symm
     obtain ⟨s2,H3,os2',b1,b2,b3⟩ := hs.append (bytes := 8) (ys := [avInt .i64 (rfirst (b.drop at')).1]) hL3 (by simp) (by simp [roomMax]; omega) (by simp)
     have e1 : asElems (halloc H' (.arr 1 [avInt .i64 at'] (t_int N))) (.ra 1 H'.l.length 0 1) = some [avInt .i64 at'] := by simp [asElems]
     have e2 : asElems (halloc H2 (.arr 1 [avInt .i64 (rfirst (b.drop at')).1] (t_int N))) (.ra 1 H2.l.length 0 1) = some [avInt .i64 (rfirst (b.drop at')).1] := by simp [asElems]
     have hw : IntKind.wrap .i64 ((at' : Int) + (rfirst (b.drop at')).2) = ((at' + (rfirst (b.drop at')).2.toNat : Nat) : Int) := by rw [wrap64 (by omega) (by omega)]; omega
     simp [L_ref01_Signs_1,r0,r5,r6,r7,hlen,hlt',hy1,hf,hz,e1,a1,e2,b1,hw,-Int.natCast_add]
     refine ⟨b.length - (at' + (rfirst (b.drop at')).2.toNat),by omega,i + 1,at' + (rfirst (b.drop at')).2.toNat,rfl,by omega,by omega,os1',?_,os2',?_,?_,?_,?_,rfl⟩
     ·rw [<- List.map_take,htk]; simpa using a2
     ·rw [<- List.map_take,htk]; simpa using b2
     ·refine (b3.sub (os' := os2' ++ os1') ?_).perm List.perm_append_comm
      refine List.Sublist.append (List.Sublist.refl _) ?_
      exact ((List.Sublist.refl _).cons _).cons _
     ·rw [hs2,List.drop_drop,List.length_drop]
     ·rw [<- hst,rstop_step hz,List.drop_drop,List.length_drop]
   ·have hlt' : ¬ (at' : Int) < b.length := by omega
    simp [L_ref01_Signs_1,r0,r5,r6,r7,hlen,hlt']
    refine fin' _ ?_ ?_ ?_ ?_ ?_ ?_ <;> try simp [r0,r5,r6,r7]
    ·rw [List.drop_eq_nil_of_le (by omega)]; exact rsigns_stop rfl _
    ·rw [List.drop_eq_nil_of_le (by omega)]; exact rstop_stop rfl _
 obtain ⟨r,e,e2⟩ := key
 rw [hR] at e2
 obtain ⟨p,s,hh,os1,os2,rfl,e2⟩ := e2
 exact ⟨p,s,hh,os1,os2,e,e2⟩
end
end Go.Proofs.Eng
namespace Go.Proofs.Eng
open Go

def C_ref02_Parts (N : Nat -> Nat) : AFunc := ⟨35,[.inl 2,.inl 3,.inl 4,.inl 5,.inl 6],
 .seq (
 .ops [⟨some 2,.mov (.c (.lit (.bool false))),none⟩,⟨some 3,.mov (.c (.lit (.int .i64 0))),none⟩,⟨some 4,.mov (.c (.lit (.int .u64 0))),none⟩,⟨some 5,.mov (.c (.lit (.bool false))),none⟩,⟨some 6,.mov (.c (.lit (.bool false))),none⟩]) (
 .seq (
 .ops [⟨some 10,.mov (.t 0),none⟩,⟨some 11,.bin .shr (.t 10) (.c (.lit (.int .u64 63))),none⟩,⟨some 12,.eq false .pint (.t 11) (.c (.lit (.int .u64 1))),none⟩,⟨some 7,.mov (.t 12),none⟩]) (
 .seq (
 .ops [⟨some 13,.mov (.t 0),none⟩,⟨some 14,.bin .shr (.t 13) (.c (.lit (.int .u64 52))),none⟩,⟨some 15,.bin .rem (.t 14) (.c (.lit (.int .u64 2048))),none⟩,⟨some 16,.conv (.toInt .i64) (.t 15),none⟩,⟨some 8,.mov (.t 16),none⟩]) (
 .seq (
 .ops [⟨some 17,.mov (.t 0),none⟩,⟨some 18,.bin .rem (.t 17) (.c (.lit (.int .u64 4503599627370496))),none⟩,⟨some 9,.mov (.t 18),none⟩]) (
 .seq (
 .seq (
 .ops [⟨some 19,.mov (.t 8),none⟩,⟨some 20,.eq false .pint (.t 19) (.c (.lit (.int .i64 2047))),none⟩]) (
 .cond (.t 20) (
 .seq (
 .ops [⟨some 21,.mov (.t 7),none⟩,⟨some 22,.mov (.t 9),none⟩,⟨some 23,.eq false .pint (.t 22) (.c (.lit (.int .u64 0))),none⟩,⟨some 24,.mov (.t 9),none⟩,⟨some 25,.eq true .pint (.t 24) (.c (.lit (.int .u64 0))),none⟩,⟨some 2,.mov (.t 21),none⟩,⟨some 3,.mov (.c (.lit (.int .i64 0))),none⟩,⟨some 4,.mov (.c (.lit (.int .u64 0))),none⟩,⟨some 5,.mov (.t 23),none⟩,⟨some 6,.mov (.t 25),none⟩]) (
 .ret)) (
 .skip))) (
 .seq (
 .seq (
 .ops [⟨some 26,.mov (.t 8),none⟩,⟨some 27,.eq false .pint (.t 26) (.c (.lit (.int .i64 0))),none⟩]) (
 .cond (.t 27) (
 .seq (
 .ops [⟨some 28,.mov (.t 7),none⟩,⟨some 29,.mov (.t 9),none⟩,⟨some 2,.mov (.t 28),none⟩,⟨some 3,.mov (.c (.lit (.int .i64 (-1074)))),none⟩,⟨some 4,.mov (.t 29),none⟩,⟨some 5,.mov (.c (.lit (.bool false))),none⟩,⟨some 6,.mov (.c (.lit (.bool false))),none⟩]) (
 .ret)) (
 .skip))) (
 .seq (
 .ops [⟨some 30,.mov (.t 7),none⟩,⟨some 31,.mov (.t 8),none⟩,⟨some 32,.bin .sub (.t 31) (.c (.lit (.int .i64 1075))),none⟩,⟨some 33,.mov (.t 9),none⟩,⟨some 34,.bin .add (.t 33) (.c (.lit (.int .u64 4503599627370496))),none⟩,⟨some 2,.mov (.t 30),none⟩,⟨some 3,.mov (.t 32),none⟩,⟨some 4,.mov (.t 34),none⟩,⟨some 5,.mov (.c (.lit (.bool false))),none⟩,⟨some 6,.mov (.c (.lit (.bool false))),none⟩]) (
 .ret))))))),false⟩

def L_ref04_Alias_1 (N : Nat -> Nat) : AC :=
 .seq (
 .seq (
 .ops [⟨some 6,.mov (.t 3),none⟩,⟨some 7,.mov (.t 0),none⟩,⟨some 8,.lens (.t 7),none⟩,⟨some 9,.bin .lss (.t 6) (.t 8),none⟩]) (
 .cond (.t 9) (
 .skip) (
 .exit 0))) (
 .seq (
 .block 1 (
 .seq (
 .ops [⟨some 12,.mov (.t 0),none⟩,⟨some 13,.mov (.t 3),none⟩,⟨some 14,.sidx (.t 12) (.t 13),none⟩,⟨some 4,.mov (.t 14),none⟩]) (
 .seq (
 .ops [⟨some 15,.mov (.t 4),none⟩,⟨some 16,.bin .geq (.t 15) (.c (.lit (.int .u8 65))),none⟩,⟨some 17,.mov (.t 16),none⟩,⟨some 18,.mov (.t 4),(some (17,true))⟩,⟨some 19,.bin .leq (.t 18) (.c (.lit (.int .u8 90))),(some (17,true))⟩,⟨some 20,.pick (.t 17) (.t 19) (.c (.lit (.bool false))),none⟩,⟨some 5,.mov (.t 20),none⟩]) (
 .seq (
 .ops [⟨some 21,.mov (.t 5),none⟩,⟨some 22,.un .not (.t 21),none⟩,⟨some 23,.mov (.t 22),none⟩,⟨some 24,.mov (.t 3),(some (23,true))⟩,⟨some 25,.eq false .pint (.t 24) (.c (.lit (.int .i64 0))),(some (23,true))⟩,⟨some 26,.mov (.t 25),(some (23,true))⟩,⟨some 27,.mov (.t 4),(some (26,false))⟩,⟨some 28,.bin .lss (.t 27) (.c (.lit (.int .u8 97))),(some (26,false))⟩,⟨some 29,.mov (.t 28),(some (26,false))⟩,⟨some 30,.mov (.t 4),(some (29,false))⟩,⟨some 31,.bin .gtr (.t 30) (.c (.lit (.int .u8 122))),(some (29,false))⟩,⟨some 32,.pick (.t 29) (.c (.lit (.bool true))) (.t 31),(some (26,false))⟩,⟨some 33,.mov (.t 32),(some (26,false))⟩,⟨some 34,.mov (.t 4),(some (33,true))⟩,⟨some 35,.bin .lss (.t 34) (.c (.lit (.int .u8 48))),(some (33,true))⟩,⟨some 36,.mov (.t 35),(some (33,true))⟩,⟨some 37,.mov (.t 4),(some (36,false))⟩,⟨some 38,.bin .gtr (.t 37) (.c (.lit (.int .u8 57))),(some (36,false))⟩,⟨some 39,.pick (.t 36) (.c (.lit (.bool true))) (.t 38),(some (33,true))⟩,⟨some 40,.pick (.t 33) (.t 39) (.c (.lit (.bool false))),(some (26,false))⟩,⟨some 41,.pick (.t 26) (.c (.lit (.bool true))) (.t 40),(some (23,true))⟩,⟨some 42,.pick (.t 23) (.t 41) (.c (.lit (.bool false))),none⟩]) (
 .cond (.t 42) (
 .seq (
 .ops [⟨some 2,.mov (.c (.lit (.bool false))),none⟩]) (
 .ret)) (
 .skip)))))) (
 .ops [⟨some 10,.mov (.t 3),none⟩,⟨some 11,.bin .add (.t 10) (.c (.lit (.int .i64 1))),none⟩,⟨some 3,.mov (.t 11),none⟩]))
def K_ref04_Alias_1 (N : Nat -> Nat) : AC :=
 .seq (
 .ops [⟨some 43,.mov (.t 0),none⟩,⟨some 44,.eq true .pstr (.t 43) (.c (.lit (.string (mkS [])))),none⟩,⟨some 2,.mov (.t 44),none⟩]) (
 .ret)
def C_ref04_Alias (N : Nat -> Nat) : AFunc := ⟨45,[.inl 2],
 .seq (
 .ops [⟨some 2,.mov (.c (.lit (.bool false))),none⟩]) (
 .seq (
 .seq (
 .ops [⟨some 3,.mov (.c (.lit (.int .i64 0))),none⟩]) (
 .block 0 (
 .loop (L_ref04_Alias_1 N)))) (K_ref04_Alias_1 N)),false⟩

def L_ref04_Right_1 (N : Nat -> Nat) : AC :=
 .seq (
 .ops [⟨some 42,.bin .lss (.t 41) (.t 40),none⟩]) (
 .seq (
 .cond (.t 42) (
 .skip) (
 .exit 0)) (
 .seq (
 .block 1 (
 .seq (
 .ops [⟨some 43,.mov (.t 41),none⟩,⟨some 44,.iaddr 8 (.t 39) (.t 41),none⟩,⟨some 45,.load (some 8) (.t 44),none⟩,⟨some 6,.new (t_api_Node N) (.agg [(.lit (.int .i64 0)),(.lit (.int .i64 0)),(.lit (.string (mkS []))),(.lit (.int .i64 0)),(.lit (.int .u64 0)),(.lit (.slice none 0 0)),(.lit (.slice none 0 0)),(.lit (.slice none 0 0))]),none⟩,⟨some 5,.mov (.t 43),none⟩,⟨none,.store 8 (.t 6) (.t 45),none⟩]) (
 .seq (
 .seq (
 .ops [⟨some 46,.load (some 8) (.t 6),none⟩,⟨some 47,.call (.c (.fn (f_ref04_term N) [] [])) [(.t 46)],none⟩,⟨some 48,.un .not (.t 47),none⟩,⟨some 49,.mov (.t 48),none⟩,⟨some 50,.faddr 6 (.t 6),(some (49,false))⟩,⟨some 51,.load none (.t 50),(some (49,false))⟩,⟨some 52,.mov (.t 5),(some (49,false))⟩,⟨some 53,.call (.c (.fn (f_ref04_below N) [] [])) [(.t 51),(.t 52)],(some (49,false))⟩,⟨some 54,.un .not (.t 53),(some (49,false))⟩,⟨some 55,.pick (.t 49) (.c (.lit (.bool true))) (.t 54),none⟩,⟨some 56,.mov (.t 55),none⟩,⟨some 57,.faddr 7 (.t 6),(some (56,false))⟩,⟨some 58,.load none (.t 57),(some (56,false))⟩,⟨some 59,.faddr 1 (.t 1),(some (56,false))⟩,⟨some 60,.load none (.t 59),(some (56,false))⟩,⟨some 61,.len (.t 60),(some (56,false))⟩,⟨some 62,.call (.c (.fn (f_ref04_below N) [] [])) [(.t 58),(.t 61)],(some (56,false))⟩,⟨some 63,.un .not (.t 62),(some (56,false))⟩,⟨some 64,.pick (.t 56) (.c (.lit (.bool true))) (.t 63),none⟩]) (
 .cond (.t 64) (
 .seq (
 .ops [⟨some 2,.mov (.c (.lit (.bool false))),none⟩]) (
 .ret)) (
 .skip))) (
 .seq (
 .ops [⟨some 65,.mov (.t 3),none⟩,⟨some 66,.faddr 6 (.t 6),none⟩,⟨some 67,.load none (.t 66),none⟩,⟨some 68,.bslice (t_sl_int N) 1 none 1 [(.lit (.slice none 0 0))] [(0,1,(.t 67))],none⟩,⟨some 69,.append (t_sl_int N) 1 24 (.t 65) (.t 68),none⟩,⟨some 3,.mov (.t 69),none⟩]) (
 .ops [⟨some 70,.mov (.t 4),none⟩,⟨some 71,.faddr 7 (.t 6),none⟩,⟨some 72,.load none (.t 71),none⟩,⟨some 73,.bslice (t_sl_int N) 1 none 1 [(.lit (.slice none 0 0))] [(0,1,(.t 72))],none⟩,⟨some 74,.append (t_sl_int N) 1 24 (.t 70) (.t 73),none⟩,⟨some 4,.mov (.t 74),none⟩]))))) (
 .ops [⟨some 75,.bin .add (.t 41) (.c (.lit (.int .i64 1))),none⟩,⟨some 41,.mov (.t 75),none⟩])))
def L_ref04_Right_2 (N : Nat -> Nat) : AC :=
 .seq (
 .ops [⟨some 80,.bin .lss (.t 79) (.t 78),none⟩]) (
 .seq (
 .cond (.t 80) (
 .skip) (
 .exit 2)) (
 .seq (
 .block 3 (
 .seq (
 .ops [⟨some 81,.mov (.t 79),none⟩,⟨some 82,.iaddr 6 (.t 77) (.t 79),none⟩,⟨some 83,.load (some 6) (.t 82),none⟩,⟨some 8,.new (t_api_TypeNode N) (.agg [(.lit (.int .i64 0)),(.lit (.int .i64 0)),(.lit (.string (mkS []))),(.lit (.slice none 0 0)),(.lit (.slice none 0 0)),(.lit (.bool false))]),none⟩,⟨some 7,.mov (.t 81),none⟩,⟨none,.store 6 (.t 8) (.t 83),none⟩]) (
 .seq (
 .seq (
 .ops [⟨some 84,.load (some 6) (.t 8),none⟩,⟨some 85,.call (.c (.fn (f_ref04_typ N) [] [])) [(.t 84)],none⟩,⟨some 86,.un .not (.t 85),none⟩,⟨some 87,.mov (.t 86),none⟩,⟨some 88,.faddr 4 (.t 8),(some (87,false))⟩,⟨some 89,.load none (.t 88),(some (87,false))⟩,⟨some 90,.mov (.t 7),(some (87,false))⟩,⟨some 91,.call (.c (.fn (f_ref04_below N) [] [])) [(.t 89),(.t 90)],(some (87,false))⟩,⟨some 92,.un .not (.t 91),(some (87,false))⟩,⟨some 93,.pick (.t 87) (.c (.lit (.bool true))) (.t 92),none⟩]) (
 .cond (.t 93) (
 .seq (
 .ops [⟨some 2,.mov (.c (.lit (.bool false))),none⟩]) (
 .ret)) (
 .skip))) (
 .ops [⟨some 94,.mov (.t 4),none⟩,⟨some 95,.faddr 4 (.t 8),none⟩,⟨some 96,.load none (.t 95),none⟩,⟨some 97,.bslice (t_sl_int N) 1 none 1 [(.lit (.slice none 0 0))] [(0,1,(.t 96))],none⟩,⟨some 98,.append (t_sl_int N) 1 24 (.t 94) (.t 97),none⟩,⟨some 4,.mov (.t 98),none⟩])))) (
 .ops [⟨some 99,.bin .add (.t 79) (.c (.lit (.int .i64 1))),none⟩,⟨some 79,.mov (.t 99),none⟩])))
def L_ref04_Right_3 (N : Nat -> Nat) : AC :=
 .seq (
 .ops [⟨some 104,.bin .lss (.t 103) (.t 102),none⟩]) (
 .seq (
 .cond (.t 104) (
 .skip) (
 .exit 4)) (
 .seq (
 .block 5 (
 .seq (
 .ops [⟨some 105,.iaddr 3 (.t 101) (.t 103),none⟩,⟨some 106,.load (some 3) (.t 105),none⟩,⟨some 10,.new (t_api_Alias N) (.agg [(.lit (.string (mkS []))),(.lit (.int .i64 0)),(.lit (.int .i64 0))]),none⟩,⟨none,.store 3 (.t 10) (.t 106),none⟩]) (
 .seq (
 .seq (
 .ops [⟨some 107,.faddr 0 (.t 10),none⟩,⟨some 108,.load none (.t 107),none⟩,⟨some 109,.call (.c (.fn (f_ref04_Alias N) [] [])) [(.t 108)],none⟩,⟨some 110,.un .not (.t 109),none⟩,⟨some 111,.mov (.t 110),none⟩,⟨some 112,.faddr 1 (.t 10),(some (111,false))⟩,⟨some 113,.load none (.t 112),(some (111,false))⟩,⟨some 114,.bslice (t_int N) 1 none 1 [(.lit (.int .i64 0))] [(0,1,(.t 113))],(some (111,false))⟩,⟨some 115,.faddr 1 (.t 1),(some (111,false))⟩,⟨some 116,.load none (.t 115),(some (111,false))⟩,⟨some 117,.len (.t 116),(some (111,false))⟩,⟨some 118,.call (.c (.fn (f_ref04_below N) [] [])) [(.t 114),(.t 117)],(some (111,false))⟩,⟨some 119,.un .not (.t 118),(some (111,false))⟩,⟨some 120,.pick (.t 111) (.c (.lit (.bool true))) (.t 119),none⟩]) (
 .cond (.t 120) (
 .seq (
 .ops [⟨some 2,.mov (.c (.lit (.bool false))),none⟩]) (
 .ret)) (
 .skip))) (
 .ops [⟨some 121,.mov (.t 4),none⟩,⟨some 122,.faddr 1 (.t 10),none⟩,⟨some 123,.load none (.t 122),none⟩,⟨some 124,.bslice (t_int N) 1 none 1 [(.lit (.int .i64 0))] [(0,1,(.t 123))],none⟩,⟨some 125,.bslice (t_sl_int N) 1 none 1 [(.lit (.slice none 0 0))] [(0,1,(.t 124))],none⟩,⟨some 126,.append (t_sl_int N) 1 24 (.t 121) (.t 125),none⟩,⟨some 4,.mov (.t 126),none⟩])))) (
 .ops [⟨some 127,.bin .add (.t 103) (.c (.lit (.int .i64 1))),none⟩,⟨some 103,.mov (.t 127),none⟩])))
def L_ref04_Right_4 (N : Nat -> Nat) : AC :=
 .seq (
 .ops [⟨some 135,.bin .lss (.t 134) (.t 133),none⟩]) (
 .seq (
 .cond (.t 135) (
 .skip) (
 .exit 6)) (
 .seq (
 .block 7 (
 .seq (
 .ops [⟨some 136,.iaddr 1 (.t 132) (.t 134),none⟩,⟨some 137,.load none (.t 136),none⟩,⟨some 12,.mov (.t 137),none⟩]) (
 .seq (
 .ops [⟨some 138,.mov (.t 12),none⟩,⟨some 139,.eq true .pint (.t 138) (.c (.lit (.int .i64 1))),none⟩]) (
 .cond (.t 139) (
 .seq (
 .ops [⟨some 2,.mov (.c (.lit (.bool false))),none⟩]) (
 .ret)) (
 .skip))))) (
 .ops [⟨some 140,.bin .add (.t 134) (.c (.lit (.int .i64 1))),none⟩,⟨some 134,.mov (.t 140),none⟩])))
def L_ref04_Right_5 (N : Nat -> Nat) : AC :=
 .seq (
 .ops [⟨some 148,.bin .lss (.t 147) (.t 146),none⟩]) (
 .seq (
 .cond (.t 148) (
 .skip) (
 .exit 8)) (
 .seq (
 .block 9 (
 .seq (
 .ops [⟨some 149,.iaddr 1 (.t 145) (.t 147),none⟩,⟨some 150,.load none (.t 149),none⟩,⟨some 14,.mov (.t 150),none⟩]) (
 .seq (
 .ops [⟨some 151,.mov (.t 14),none⟩,⟨some 152,.eq true .pint (.t 151) (.c (.lit (.int .i64 1))),none⟩]) (
 .cond (.t 152) (
 .seq (
 .ops [⟨some 2,.mov (.c (.lit (.bool false))),none⟩]) (
 .ret)) (
 .skip))))) (
 .ops [⟨some 153,.bin .add (.t 147) (.c (.lit (.int .i64 1))),none⟩,⟨some 147,.mov (.t 153),none⟩])))
def K_ref04_Right_5 (N : Nat -> Nat) : AC :=
 .seq (
 .ops [⟨some 2,.mov (.c (.lit (.bool true))),none⟩]) (
 .ret)
def K_ref04_Right_4 (N : Nat -> Nat) : AC :=
 .seq (
 .seq (
 .ops [⟨some 141,.faddr 1 (.t 1),none⟩,⟨some 142,.load none (.t 141),none⟩,⟨some 143,.len (.t 142),none⟩,⟨some 144,.mov (.t 4),none⟩,⟨some 145,.call (.c (.fn (f_ref04_uses N) [] [])) [(.t 143),(.t 144)],none⟩,⟨some 146,.len (.t 145),none⟩,⟨some 147,.mov (.c (.lit (.int .i64 0))),none⟩]) (
 .block 8 (
 .loop (L_ref04_Right_5 N)))) (K_ref04_Right_5 N)
def K_ref04_Right_3 (N : Nat -> Nat) : AC :=
 .seq (
 .seq (
 .ops [⟨some 128,.faddr 0 (.t 1),none⟩,⟨some 129,.load none (.t 128),none⟩,⟨some 130,.len (.t 129),none⟩,⟨some 131,.mov (.t 3),none⟩,⟨some 132,.call (.c (.fn (f_ref04_uses N) [] [])) [(.t 130),(.t 131)],none⟩,⟨some 133,.len (.t 132),none⟩,⟨some 134,.mov (.c (.lit (.int .i64 0))),none⟩]) (
 .block 6 (
 .loop (L_ref04_Right_4 N)))) (K_ref04_Right_4 N)
def K_ref04_Right_2 (N : Nat -> Nat) : AC :=
 .seq (
 .seq (
 .ops [⟨some 100,.faddr 2 (.t 1),none⟩,⟨some 101,.load none (.t 100),none⟩,⟨some 102,.len (.t 101),none⟩,⟨some 103,.mov (.c (.lit (.int .i64 0))),none⟩]) (
 .block 4 (
 .loop (L_ref04_Right_3 N)))) (K_ref04_Right_3 N)
def K_ref04_Right_1 (N : Nat -> Nat) : AC :=
 .seq (
 .seq (
 .ops [⟨some 76,.faddr 1 (.t 1),none⟩,⟨some 77,.load none (.t 76),none⟩,⟨some 78,.len (.t 77),none⟩,⟨some 79,.mov (.c (.lit (.int .i64 0))),none⟩]) (
 .block 2 (
 .loop (L_ref04_Right_2 N)))) (K_ref04_Right_2 N)
def C_ref04_Right (N : Nat -> Nat) : AFunc := ⟨154,[.inl 2],
 .seq (
 .ops [⟨some 1,.box (t_api_Tree N) (.t 0),none⟩,⟨some 2,.mov (.c (.lit (.bool false))),none⟩]) (
 .seq (
 .seq (
 .ops [⟨some 15,.faddr 0 (.t 1),none⟩,⟨some 16,.load none (.t 15),none⟩,⟨some 17,.len (.t 16),none⟩,⟨some 18,.eq false .pint (.t 17) (.c (.lit (.int .i64 0))),none⟩,⟨some 19,.mov (.t 18),none⟩,⟨some 20,.faddr 0 (.t 1),(some (19,false))⟩,⟨some 21,.load none (.t 20),(some (19,false))⟩,⟨some 22,.len (.t 21),(some (19,false))⟩,⟨some 23,.bin .gtr (.t 22) (.c (.lit (.int .i64 65536))),(some (19,false))⟩,⟨some 24,.pick (.t 19) (.c (.lit (.bool true))) (.t 23),none⟩,⟨some 25,.mov (.t 24),none⟩,⟨some 26,.faddr 1 (.t 1),(some (25,false))⟩,⟨some 27,.load none (.t 26),(some (25,false))⟩,⟨some 28,.len (.t 27),(some (25,false))⟩,⟨some 29,.bin .gtr (.t 28) (.c (.lit (.int .i64 65536))),(some (25,false))⟩,⟨some 30,.pick (.t 25) (.c (.lit (.bool true))) (.t 29),none⟩]) (
 .cond (.t 30) (
 .seq (
 .ops [⟨some 2,.mov (.c (.lit (.bool false))),none⟩]) (
 .ret)) (
 .skip))) (
 .seq (
 .ops [⟨some 31,.faddr 0 (.t 1),none⟩,⟨some 32,.load none (.t 31),none⟩,⟨some 33,.len (.t 32),none⟩,⟨some 34,.bin .sub (.t 33) (.c (.lit (.int .i64 1))),none⟩,⟨some 35,.bslice (t_int N) 1 none 1 [(.lit (.int .i64 0))] [(0,1,(.t 34))],none⟩,⟨some 36,.bslice (t_sl_int N) 1 none 1 [(.lit (.slice none 0 0))] [(0,1,(.t 35))],none⟩,⟨some 37,.bslice (t_sl_int N) 1 none 0 [(.lit (.slice none 0 0))] [],none⟩,⟨some 3,.mov (.t 36),none⟩,⟨some 4,.mov (.t 37),none⟩]) (
 .seq (
 .seq (
 .ops [⟨some 38,.faddr 0 (.t 1),none⟩,⟨some 39,.load none (.t 38),none⟩,⟨some 40,.len (.t 39),none⟩,⟨some 41,.mov (.c (.lit (.int .i64 0))),none⟩]) (
 .block 0 (
 .loop (L_ref04_Right_1 N)))) (K_ref04_Right_1 N)))),false⟩

def L_ref04_below_1 (N : Nat -> Nat) : AC :=
 .seq (
 .ops [⟨some 10,.bin .lss (.t 9) (.t 8),none⟩]) (
 .seq (
 .cond (.t 10) (
 .skip) (
 .exit 0)) (
 .seq (
 .block 1 (
 .seq (
 .ops [⟨some 11,.iaddr 1 (.t 7) (.t 9),none⟩,⟨some 12,.load none (.t 11),none⟩,⟨some 6,.mov (.t 12),none⟩]) (
 .seq (
 .ops [⟨some 13,.mov (.t 6),none⟩,⟨some 14,.bin .lss (.t 13) (.c (.lit (.int .i64 0))),none⟩,⟨some 15,.mov (.t 14),none⟩,⟨some 16,.mov (.t 6),(some (15,false))⟩,⟨some 17,.mov (.t 1),(some (15,false))⟩,⟨some 18,.bin .geq (.t 16) (.t 17),(some (15,false))⟩,⟨some 19,.pick (.t 15) (.c (.lit (.bool true))) (.t 18),none⟩]) (
 .cond (.t 19) (
 .seq (
 .ops [⟨some 4,.mov (.c (.lit (.bool false))),none⟩]) (
 .ret)) (
 .skip))))) (
 .ops [⟨some 20,.bin .add (.t 9) (.c (.lit (.int .i64 1))),none⟩,⟨some 9,.mov (.t 20),none⟩])))
def K_ref04_below_1 (N : Nat -> Nat) : AC :=
 .seq (
 .ops [⟨some 4,.mov (.c (.lit (.bool true))),none⟩]) (
 .ret)
def C_ref04_below (N : Nat -> Nat) : AFunc := ⟨21,[.inl 4],
 .seq (
 .ops [⟨some 4,.mov (.c (.lit (.bool false))),none⟩]) (
 .seq (
 .seq (
 .ops [⟨some 7,.mov (.t 0),none⟩,⟨some 8,.len (.t 7),none⟩,⟨some 9,.mov (.c (.lit (.int .i64 0))),none⟩]) (
 .block 0 (
 .loop (L_ref04_below_1 N)))) (K_ref04_below_1 N)),false⟩

def L_ref04_names_1 (N : Nat -> Nat) : AC :=
 .seq (
 .ops [⟨some 8,.bin .lss (.t 7) (.t 6),none⟩]) (
 .seq (
 .cond (.t 8) (
 .skip) (
 .exit 0)) (
 .seq (
 .block 1 (
 .seq (
 .ops [⟨some 9,.iaddr 1 (.t 5) (.t 7),none⟩,⟨some 10,.load none (.t 9),none⟩,⟨some 4,.mov (.t 10),none⟩]) (
 .seq (
 .ops [⟨some 11,.mov (.t 4),none⟩,⟨some 12,.call (.c (.fn (f_ref04_Name N) [] [])) [(.t 11)],none⟩,⟨some 13,.un .not (.t 12),none⟩]) (
 .cond (.t 13) (
 .seq (
 .ops [⟨some 2,.mov (.c (.lit (.bool false))),none⟩]) (
 .ret)) (
 .skip))))) (
 .ops [⟨some 14,.bin .add (.t 7) (.c (.lit (.int .i64 1))),none⟩,⟨some 7,.mov (.t 14),none⟩])))
def K_ref04_names_1 (N : Nat -> Nat) : AC :=
 .seq (
 .ops [⟨some 2,.mov (.c (.lit (.bool true))),none⟩]) (
 .ret)
def C_ref04_names (N : Nat -> Nat) : AFunc := ⟨15,[.inl 2],
 .seq (
 .ops [⟨some 2,.mov (.c (.lit (.bool false))),none⟩]) (
 .seq (
 .seq (
 .ops [⟨some 5,.mov (.t 0),none⟩,⟨some 6,.len (.t 5),none⟩,⟨some 7,.mov (.c (.lit (.int .i64 0))),none⟩]) (
 .block 0 (
 .loop (L_ref04_names_1 N)))) (K_ref04_names_1 N)),false⟩

def L_ref04_once_2 (N : Nat -> Nat) : AC :=
 .seq (
 .seq (
 .ops [⟨some 10,.mov (.t 4),none⟩,⟨some 11,.mov (.t 3),none⟩,⟨some 12,.bin .lss (.t 10) (.t 11),none⟩]) (
 .cond (.t 12) (
 .skip) (
 .exit 2))) (
 .seq (
 .block 3 (
 .seq (
 .dops 7 [⟨some 15,.mov (.t 0),none⟩,⟨some 16,.mov (.t 3),none⟩,⟨some 17,.iaddr 1 (.t 15) (.t 16),none⟩,⟨some 18,.load none (.t 17),none⟩,⟨some 19,.mov (.t 0),none⟩,⟨some 20,.mov (.t 4),none⟩,⟨some 21,.iaddr 1 (.t 19) (.t 20),none⟩,⟨some 22,.load none (.t 21),none⟩,⟨some 23,.eq false .pstr (.t 18) (.t 22),none⟩] [0,0,0,2,0,0,0,2,0] []) (
 .cond (.t 23) (
 .seq (
 .ops [⟨some 2,.mov (.c (.lit (.bool false))),none⟩]) (
 .ret)) (
 .skip)))) (
 .ops [⟨some 13,.mov (.t 4),none⟩,⟨some 14,.bin .add (.t 13) (.c (.lit (.int .i64 1))),none⟩,⟨some 4,.mov (.t 14),none⟩]))
def K_ref04_once_1 (N : Nat -> Nat) : AC :=
 .ops [⟨some 24,.bin .add (.t 7) (.c (.lit (.int .i64 1))),none⟩,⟨some 7,.mov (.t 24),none⟩]
def L_ref04_once_1 (N : Nat -> Nat) : AC :=
 .seq (
 .ops [⟨some 8,.bin .lss (.t 7) (.t 6),none⟩]) (
 .seq (
 .cond (.t 8) (
 .skip) (
 .exit 0)) (
 .seq (
 .block 1 (
 .seq (
 .ops [⟨some 9,.mov (.t 7),none⟩,⟨some 3,.mov (.t 9),none⟩]) (
 .seq (
 .ops [⟨some 4,.mov (.c (.lit (.int .i64 0))),none⟩]) (
 .block 2 (
 .loop (L_ref04_once_2 N)))))) (K_ref04_once_1 N)))
def K_ref04_once_2 (N : Nat -> Nat) : AC :=
 .seq (
 .ops [⟨some 2,.mov (.c (.lit (.bool true))),none⟩]) (
 .ret)
def C_ref04_once (N : Nat -> Nat) : AFunc := ⟨25,[.inl 2],
 .seq (
 .ops [⟨some 2,.mov (.c (.lit (.bool false))),none⟩]) (
 .seq (
 .seq (
 .ops [⟨some 5,.mov (.t 0),none⟩,⟨some 6,.len (.t 5),none⟩,⟨some 7,.mov (.c (.lit (.int .i64 0))),none⟩]) (
 .block 0 (
 .loop (L_ref04_once_1 N)))) (K_ref04_once_2 N)),false⟩

def C_ref04_op (N : Nat -> Nat) : AFunc := ⟨17,[.inl 2],
 .seq (
 .ops [⟨some 2,.mov (.c (.lit (.bool false))),none⟩]) (
 .seq (
 .seq (
 .ops [⟨some 3,.mov (.t 0),none⟩]) (
 .block 0 (
 .seq (
 .seq (
 .ops [⟨some 5,.eq false .pstr (.t 3) (.c (.lit (.string (mkS [43])))),none⟩,⟨some 4,.mov (.t 5),none⟩]) (
 .cond (.t 4) (
 .skip) (
 .seq (
 .ops [⟨some 6,.eq false .pstr (.t 3) (.c (.lit (.string (mkS [45])))),none⟩,⟨some 4,.mov (.t 6),none⟩]) (
 .cond (.t 4) (
 .skip) (
 .seq (
 .ops [⟨some 7,.eq false .pstr (.t 3) (.c (.lit (.string (mkS [42])))),none⟩,⟨some 4,.mov (.t 7),none⟩]) (
 .cond (.t 4) (
 .skip) (
 .seq (
 .ops [⟨some 8,.eq false .pstr (.t 3) (.c (.lit (.string (mkS [47])))),none⟩,⟨some 4,.mov (.t 8),none⟩]) (
 .cond (.t 4) (
 .skip) (
 .seq (
 .ops [⟨some 9,.eq false .pstr (.t 3) (.c (.lit (.string (mkS [43,46])))),none⟩,⟨some 4,.mov (.t 9),none⟩]) (
 .cond (.t 4) (
 .skip) (
 .seq (
 .ops [⟨some 10,.eq false .pstr (.t 3) (.c (.lit (.string (mkS [45,46])))),none⟩,⟨some 4,.mov (.t 10),none⟩]) (
 .cond (.t 4) (
 .skip) (
 .seq (
 .ops [⟨some 11,.eq false .pstr (.t 3) (.c (.lit (.string (mkS [42,46])))),none⟩,⟨some 4,.mov (.t 11),none⟩]) (
 .cond (.t 4) (
 .skip) (
 .seq (
 .ops [⟨some 12,.eq false .pstr (.t 3) (.c (.lit (.string (mkS [47,46])))),none⟩,⟨some 4,.mov (.t 12),none⟩]) (
 .cond (.t 4) (
 .skip) (
 .seq (
 .ops [⟨some 13,.eq false .pstr (.t 3) (.c (.lit (.string (mkS [60])))),none⟩,⟨some 4,.mov (.t 13),none⟩]) (
 .cond (.t 4) (
 .skip) (
 .seq (
 .ops [⟨some 14,.eq false .pstr (.t 3) (.c (.lit (.string (mkS [60,46])))),none⟩,⟨some 4,.mov (.t 14),none⟩]) (
 .cond (.t 4) (
 .skip) (
 .seq (
 .ops [⟨some 15,.eq false .pstr (.t 3) (.c (.lit (.string (mkS [61,61])))),none⟩,⟨some 4,.mov (.t 15),none⟩]) (
 .cond (.t 4) (
 .skip) (
 .ops [⟨some 16,.eq false .pstr (.t 3) (.c (.lit (.string (mkS [94])))),none⟩,⟨some 4,.mov (.t 16),none⟩]))))))))))))))))))))))) (
 .cond (.t 4) (
 .seq (
 .ops [⟨some 2,.mov (.c (.lit (.bool true))),none⟩]) (
 .ret)) (
 .skip))))) (
 .seq (
 .ops [⟨some 2,.mov (.c (.lit (.bool false))),none⟩]) (
 .ret))),false⟩

def L_ref04_term_1 (N : Nat -> Nat) : AC :=
 .seq (
 .ops [⟨some 135,.bin .lss (.t 134) (.t 133),none⟩]) (
 .seq (
 .cond (.t 135) (
 .skip) (
 .exit 1)) (
 .seq (
 .block 2 (
 .seq (
 .ops [⟨some 136,.mov (.t 134),none⟩,⟨some 14,.mov (.t 136),none⟩]) (
 .seq (
 .ops [⟨some 137,.mov (.t 14),none⟩,⟨some 138,.bin .rem (.t 137) (.c (.lit (.int .i64 2))),none⟩,⟨some 139,.eq false .pint (.t 138) (.c (.lit (.int .i64 0))),none⟩]) (
 .cond (.t 139) (
 .seq (
 .ops [⟨some 140,.mov (.t 13),none⟩,⟨some 141,.faddr 5 (.t 1),none⟩,⟨some 142,.load none (.t 141),none⟩,⟨some 143,.mov (.t 14),none⟩,⟨some 144,.iaddr 1 (.t 142) (.t 143),none⟩,⟨some 145,.load none (.t 144),none⟩,⟨some 146,.bslice (t_string N) 1 none 1 [(.lit (.string (mkS [])))] [(0,1,(.t 145))],none⟩,⟨some 147,.append (t_string N) 1 16 (.t 140) (.t 146),none⟩,⟨some 13,.mov (.t 147),none⟩]) (
 .seq (
 .ops [⟨some 148,.faddr 5 (.t 1),none⟩,⟨some 149,.load none (.t 148),none⟩,⟨some 150,.mov (.t 14),none⟩,⟨some 151,.iaddr 1 (.t 149) (.t 150),none⟩,⟨some 152,.load none (.t 151),none⟩,⟨some 153,.call (.c (.fn (f_ref04_Tag N) [] [])) [(.t 152)],none⟩,⟨some 154,.un .not (.t 153),none⟩]) (
 .cond (.t 154) (
 .seq (
 .ops [⟨some 2,.mov (.c (.lit (.bool false))),none⟩]) (
 .ret)) (
 .skip)))) (
 .seq (
 .ops [⟨some 155,.faddr 5 (.t 1),none⟩,⟨some 156,.load none (.t 155),none⟩,⟨some 157,.mov (.t 14),none⟩,⟨some 158,.iaddr 1 (.t 156) (.t 157),none⟩,⟨some 159,.load none (.t 158),none⟩,⟨some 160,.call (.c (.fn (f_ref04_Name N) [] [])) [(.t 159)],none⟩,⟨some 161,.un .not (.t 160),none⟩]) (
 .cond (.t 161) (
 .seq (
 .ops [⟨some 2,.mov (.c (.lit (.bool false))),none⟩]) (
 .ret)) (
 .skip))))))) (
 .ops [⟨some 162,.bin .add (.t 134) (.c (.lit (.int .i64 1))),none⟩,⟨some 134,.mov (.t 162),none⟩])))
def K_ref04_term_1 (N : Nat -> Nat) : AC :=
 .seq (
 .ops [⟨some 163,.faddr 6 (.t 1),none⟩,⟨some 164,.load none (.t 163),none⟩,⟨some 165,.len (.t 164),none⟩,⟨some 166,.mov (.t 13),none⟩,⟨some 167,.len (.t 166),none⟩,⟨some 168,.bin .sub (.t 165) (.t 167),none⟩,⟨some 15,.mov (.t 168),none⟩]) (
 .seq (
 .ops [⟨some 169,.faddr 2 (.t 1),none⟩,⟨some 170,.load none (.t 169),none⟩,⟨some 171,.eq false .pstr (.t 170) (.c (.lit (.string (mkS [])))),none⟩,⟨some 172,.mov (.t 171),none⟩,⟨some 173,.faddr 3 (.t 1),(some (172,true))⟩,⟨some 174,.load none (.t 173),(some (172,true))⟩,⟨some 175,.eq false .pint (.t 174) (.c (.lit (.int .i64 0))),(some (172,true))⟩,⟨some 176,.pick (.t 172) (.t 175) (.c (.lit (.bool false))),none⟩,⟨some 177,.mov (.t 176),none⟩,⟨some 178,.faddr 4 (.t 1),(some (177,true))⟩,⟨some 179,.load none (.t 178),(some (177,true))⟩,⟨some 180,.eq false .pint (.t 179) (.c (.lit (.int .u64 0))),(some (177,true))⟩,⟨some 181,.pick (.t 177) (.t 180) (.c (.lit (.bool false))),none⟩,⟨some 182,.mov (.t 181),none⟩,⟨some 183,.faddr 7 (.t 1),(some (182,true))⟩,⟨some 184,.load none (.t 183),(some (182,true))⟩,⟨some 185,.len (.t 184),(some (182,true))⟩,⟨some 186,.eq false .pint (.t 185) (.c (.lit (.int .i64 0))),(some (182,true))⟩,⟨some 187,.pick (.t 182) (.t 186) (.c (.lit (.bool false))),none⟩,⟨some 188,.mov (.t 187),none⟩,⟨some 189,.faddr 5 (.t 1),(some (188,true))⟩,⟨some 190,.load none (.t 189),(some (188,true))⟩,⟨some 191,.len (.t 190),(some (188,true))⟩,⟨some 192,.bin .rem (.t 191) (.c (.lit (.int .i64 2))),(some (188,true))⟩,⟨some 193,.eq false .pint (.t 192) (.c (.lit (.int .i64 0))),(some (188,true))⟩,⟨some 194,.pick (.t 188) (.t 193) (.c (.lit (.bool false))),none⟩,⟨some 195,.mov (.t 194),none⟩,⟨some 196,.mov (.t 15),(some (195,true))⟩,⟨some 197,.eq false .pint (.t 196) (.c (.lit (.int .i64 1))),(some (195,true))⟩,⟨some 198,.mov (.t 197),(some (195,true))⟩,⟨some 199,.mov (.t 15),(some (198,false))⟩,⟨some 200,.eq false .pint (.t 199) (.c (.lit (.int .i64 2))),(some (198,false))⟩,⟨some 201,.pick (.t 198) (.c (.lit (.bool true))) (.t 200),(some (195,true))⟩,⟨some 202,.pick (.t 195) (.t 201) (.c (.lit (.bool false))),none⟩,⟨some 203,.mov (.t 202),none⟩,⟨some 204,.mov (.t 13),(some (203,true))⟩,⟨some 205,.call (.c (.fn (f_ref04_once N) [] [])) [(.t 204)],(some (203,true))⟩,⟨some 206,.pick (.t 203) (.t 205) (.c (.lit (.bool false))),none⟩,⟨some 2,.mov (.t 206),none⟩]) (
 .ret))
def K_ref04_term_2 (N : Nat -> Nat) : AC :=
 .seq (
 .ops [⟨some 211,.faddr 0 (.t 1),none⟩,⟨some 212,.load none (.t 211),none⟩,⟨some 213,.eq true .pint (.t 212) (.c (.lit (.int .i64 1))),none⟩,⟨some 214,.mov (.t 213),none⟩,⟨some 215,.faddr 0 (.t 1),(some (214,true))⟩,⟨some 216,.load none (.t 215),(some (214,true))⟩,⟨some 217,.eq true .pint (.t 216) (.c (.lit (.int .i64 2))),(some (214,true))⟩,⟨some 218,.pick (.t 214) (.t 217) (.c (.lit (.bool false))),none⟩,⟨some 219,.mov (.t 218),none⟩,⟨some 220,.faddr 0 (.t 1),(some (219,true))⟩,⟨some 221,.load none (.t 220),(some (219,true))⟩,⟨some 222,.eq true .pint (.t 221) (.c (.lit (.int .i64 4))),(some (219,true))⟩,⟨some 223,.pick (.t 219) (.t 222) (.c (.lit (.bool false))),none⟩,⟨some 224,.mov (.t 223),none⟩,⟨some 225,.faddr 0 (.t 1),(some (224,true))⟩,⟨some 226,.load none (.t 225),(some (224,true))⟩,⟨some 227,.eq true .pint (.t 226) (.c (.lit (.int .i64 6))),(some (224,true))⟩,⟨some 228,.pick (.t 224) (.t 227) (.c (.lit (.bool false))),none⟩,⟨some 229,.mov (.t 228),none⟩,⟨some 230,.faddr 0 (.t 1),(some (229,true))⟩,⟨some 231,.load none (.t 230),(some (229,true))⟩,⟨some 232,.eq true .pint (.t 231) (.c (.lit (.int .i64 9))),(some (229,true))⟩,⟨some 233,.pick (.t 229) (.t 232) (.c (.lit (.bool false))),none⟩,⟨some 234,.mov (.t 233),none⟩,⟨some 235,.faddr 0 (.t 1),(some (234,true))⟩,⟨some 236,.load none (.t 235),(some (234,true))⟩,⟨some 237,.eq true .pint (.t 236) (.c (.lit (.int .i64 15))),(some (234,true))⟩,⟨some 238,.pick (.t 234) (.t 237) (.c (.lit (.bool false))),none⟩,⟨some 239,.mov (.t 238),none⟩,⟨some 240,.faddr 0 (.t 1),(some (239,true))⟩,⟨some 241,.load none (.t 240),(some (239,true))⟩,⟨some 242,.eq true .pint (.t 241) (.c (.lit (.int .i64 16))),(some (239,true))⟩,⟨some 243,.pick (.t 239) (.t 242) (.c (.lit (.bool false))),none⟩,⟨some 16,.mov (.t 243),none⟩]) (
 .seq (
 .seq (
 .ops [⟨some 244,.mov (.t 16),none⟩,⟨some 245,.mov (.t 244),none⟩,⟨some 246,.mov (.t 3),(some (245,true))⟩,⟨some 247,.un .not (.t 246),(some (245,true))⟩,⟨some 248,.pick (.t 245) (.t 247) (.c (.lit (.bool false))),none⟩,⟨some 249,.mov (.t 248),none⟩,⟨some 250,.mov (.t 16),(some (249,false))⟩,⟨some 251,.un .not (.t 250),(some (249,false))⟩,⟨some 252,.mov (.t 251),(some (249,false))⟩,⟨some 253,.faddr 2 (.t 1),(some (252,true))⟩,⟨some 254,.load none (.t 253),(some (252,true))⟩,⟨some 255,.eq true .pstr (.t 254) (.c (.lit (.string (mkS [])))),(some (252,true))⟩,⟨some 256,.pick (.t 252) (.t 255) (.c (.lit (.bool false))),(some (249,false))⟩,⟨some 257,.pick (.t 249) (.c (.lit (.bool true))) (.t 256),none⟩]) (
 .cond (.t 257) (
 .seq (
 .ops [⟨some 2,.mov (.c (.lit (.bool false))),none⟩]) (
 .ret)) (
 .skip))) (
 .seq (
 .seq (
 .ops [⟨some 258,.faddr 0 (.t 1),none⟩,⟨some 259,.load none (.t 258),none⟩,⟨some 260,.eq false .pint (.t 259) (.c (.lit (.int .i64 1))),none⟩,⟨some 261,.mov (.t 260),none⟩,⟨some 262,.faddr 0 (.t 1),(some (261,false))⟩,⟨some 263,.load none (.t 262),(some (261,false))⟩,⟨some 264,.eq false .pint (.t 263) (.c (.lit (.int .i64 2))),(some (261,false))⟩,⟨some 265,.pick (.t 261) (.c (.lit (.bool true))) (.t 264),none⟩,⟨some 266,.mov (.t 4),none⟩,⟨some 267,.eq true .pbool (.t 265) (.t 266),none⟩,⟨some 268,.mov (.t 267),none⟩,⟨some 269,.mov (.t 4),(some (268,false))⟩,⟨some 270,.un .not (.t 269),(some (268,false))⟩,⟨some 271,.mov (.t 270),(some (268,false))⟩,⟨some 272,.faddr 3 (.t 1),(some (271,true))⟩,⟨some 273,.load none (.t 272),(some (271,true))⟩,⟨some 274,.eq true .pint (.t 273) (.c (.lit (.int .i64 0))),(some (271,true))⟩,⟨some 275,.pick (.t 271) (.t 274) (.c (.lit (.bool false))),(some (268,false))⟩,⟨some 276,.pick (.t 268) (.c (.lit (.bool true))) (.t 275),none⟩,⟨some 277,.mov (.t 276),none⟩,⟨some 278,.faddr 0 (.t 1),(some (277,false))⟩,⟨some 279,.load none (.t 278),(some (277,false))⟩,⟨some 280,.eq false .pint (.t 279) (.c (.lit (.int .i64 4))),(some (277,false))⟩,⟨some 281,.mov (.t 5),(some (277,false))⟩,⟨some 282,.eq true .pbool (.t 280) (.t 281),(some (277,false))⟩,⟨some 283,.pick (.t 277) (.c (.lit (.bool true))) (.t 282),none⟩,⟨some 284,.mov (.t 283),none⟩,⟨some 285,.faddr 0 (.t 1),(some (284,false))⟩,⟨some 286,.load none (.t 285),(some (284,false))⟩,⟨some 287,.eq true .pint (.t 286) (.c (.lit (.int .i64 4))),(some (284,false))⟩,⟨some 288,.mov (.t 287),(some (284,false))⟩,⟨some 289,.faddr 4 (.t 1),(some (288,true))⟩,⟨some 290,.load none (.t 289),(some (288,true))⟩,⟨some 291,.eq true .pint (.t 290) (.c (.lit (.int .u64 0))),(some (288,true))⟩,⟨some 292,.pick (.t 288) (.t 291) (.c (.lit (.bool false))),(some (284,false))⟩,⟨some 293,.pick (.t 284) (.c (.lit (.bool true))) (.t 292),none⟩]) (
 .cond (.t 293) (
 .seq (
 .ops [⟨some 2,.mov (.c (.lit (.bool false))),none⟩]) (
 .ret)) (
 .skip))) (
 .seq (
 .ops [⟨some 294,.faddr 5 (.t 1),none⟩,⟨some 295,.load none (.t 294),none⟩,⟨some 296,.len (.t 295),none⟩,⟨some 297,.eq false .pint (.t 296) (.c (.lit (.int .i64 0))),none⟩,⟨some 298,.mov (.t 297),none⟩,⟨some 299,.faddr 6 (.t 1),(some (298,true))⟩,⟨some 300,.load none (.t 299),(some (298,true))⟩,⟨some 301,.len (.t 300),(some (298,true))⟩,⟨some 302,.mov (.t 6),(some (298,true))⟩,⟨some 303,.eq false .pint (.t 301) (.t 302),(some (298,true))⟩,⟨some 304,.pick (.t 298) (.t 303) (.c (.lit (.bool false))),none⟩,⟨some 305,.mov (.t 304),none⟩,⟨some 306,.faddr 7 (.t 1),(some (305,true))⟩,⟨some 307,.load none (.t 306),(some (305,true))⟩,⟨some 308,.len (.t 307),(some (305,true))⟩,⟨some 309,.mov (.t 7),(some (305,true))⟩,⟨some 310,.eq false .pint (.t 308) (.t 309),(some (305,true))⟩,⟨some 311,.pick (.t 305) (.t 310) (.c (.lit (.bool false))),none⟩,⟨some 2,.mov (.t 311),none⟩]) (
 .ret))))
def C_ref04_term (N : Nat -> Nat) : AFunc := ⟨312,[.inl 2],
 .seq (
 .ops [⟨some 1,.box (t_api_Node N) (.t 0),none⟩,⟨some 2,.mov (.c (.lit (.bool false))),none⟩]) (
 .seq (
 .ops [⟨some 3,.mov (.c (.lit (.bool false))),none⟩,⟨some 4,.mov (.c (.lit (.bool false))),none⟩,⟨some 5,.mov (.c (.lit (.bool false))),none⟩]) (
 .seq (
 .ops [⟨some 6,.mov (.c (.lit (.int .i64 0))),none⟩,⟨some 7,.mov (.c (.lit (.int .i64 0))),none⟩]) (
 .seq (
 .seq (
 .ops [⟨some 17,.faddr 0 (.t 1),none⟩,⟨some 18,.load none (.t 17),none⟩]) (
 .block 0 (
 .seq (
 .ops [⟨some 20,.eq false .pint (.t 18) (.c (.lit (.int .i64 0))),none⟩,⟨some 19,.mov (.t 20),none⟩]) (
 .cond (.t 19) (
 .ops [⟨some 21,.faddr 2 (.t 1),none⟩,⟨some 22,.load none (.t 21),none⟩,⟨some 23,.call (.c (.fn (f_ref04_Name N) [] [])) [(.t 22)],none⟩,⟨some 3,.mov (.t 23),none⟩]) (
 .seq (
 .ops [⟨some 25,.eq false .pint (.t 18) (.c (.lit (.int .i64 1))),none⟩,⟨some 24,.mov (.t 25),none⟩]) (
 .cond (.t 24) (
 .ops [⟨some 26,.faddr 3 (.t 1),none⟩,⟨some 27,.load none (.t 26),none⟩,⟨some 28,.bin .geq (.t 27) (.c (.lit (.int .i64 0))),none⟩,⟨some 4,.mov (.t 28),none⟩]) (
 .seq (
 .ops [⟨some 30,.eq false .pint (.t 18) (.c (.lit (.int .i64 2))),none⟩,⟨some 29,.mov (.t 30),none⟩]) (
 .cond (.t 29) (
 .ops [⟨some 31,.faddr 3 (.t 1),none⟩,⟨some 32,.load none (.t 31),none⟩,⟨some 33,.eq false .pint (.t 32) (.c (.lit (.int .i64 0))),none⟩,⟨some 34,.mov (.t 33),none⟩,⟨some 35,.faddr 3 (.t 1),(some (34,false))⟩,⟨some 36,.load none (.t 35),(some (34,false))⟩,⟨some 37,.eq false .pint (.t 36) (.c (.lit (.int .i64 1))),(some (34,false))⟩,⟨some 38,.pick (.t 34) (.c (.lit (.bool true))) (.t 37),none⟩,⟨some 4,.mov (.t 38),none⟩]) (
 .seq (
 .ops [⟨some 40,.eq false .pint (.t 18) (.c (.lit (.int .i64 3))),none⟩,⟨some 39,.mov (.t 40),none⟩]) (
 .cond (.t 39) (
 .ops [⟨some 41,.faddr 2 (.t 1),none⟩,⟨some 42,.load none (.t 41),none⟩,⟨some 43,.call (.c (.fn (f_ref04_text N) [] [])) [(.t 42)],none⟩,⟨some 3,.mov (.t 43),none⟩]) (
 .seq (
 .ops [⟨some 45,.eq false .pint (.t 18) (.c (.lit (.int .i64 4))),none⟩,⟨some 44,.mov (.t 45),none⟩]) (
 .cond (.t 44) (
 .seq (
 .ops [⟨some 47,.faddr 4 (.t 1),none⟩,⟨some 48,.load none (.t 47),none⟩,⟨some 49,.call (.c (.fn (f_ref02_Parts N) [] [])) [(.t 48)],none⟩,⟨some 46,.mov (.t 49),none⟩,⟨some 50,.extract (.t 46) 0,none⟩,⟨some 51,.extract (.t 46) 1,none⟩,⟨some 52,.extract (.t 46) 2,none⟩,⟨some 53,.extract (.t 46) 3,none⟩,⟨some 54,.extract (.t 46) 4,none⟩,⟨some 8,.mov (.t 50),none⟩,⟨some 9,.mov (.t 51),none⟩,⟨some 10,.mov (.t 52),none⟩,⟨some 11,.mov (.t 53),none⟩,⟨some 12,.mov (.t 54),none⟩]) (
 .ops [⟨some 55,.mov (.t 12),none⟩,⟨some 56,.un .not (.t 55),none⟩,⟨some 57,.mov (.t 56),none⟩,⟨some 58,.faddr 4 (.t 1),(some (57,false))⟩,⟨some 59,.load none (.t 58),(some (57,false))⟩,⟨some 60,.eq false .pint (.t 59) (.c (.lit (.int .u64 9221120237041090561))),(some (57,false))⟩,⟨some 61,.pick (.t 57) (.c (.lit (.bool true))) (.t 60),none⟩,⟨some 5,.mov (.t 61),none⟩])) (
 .seq (
 .seq (
 .ops [⟨some 63,.eq false .pint (.t 18) (.c (.lit (.int .i64 5))),none⟩,⟨some 62,.mov (.t 63),none⟩]) (
 .cond (.t 62) (
 .skip) (
 .ops [⟨some 64,.eq false .pint (.t 18) (.c (.lit (.int .i64 13))),none⟩,⟨some 62,.mov (.t 64),none⟩]))) (
 .cond (.t 62) (
 .ops [⟨some 65,.faddr 2 (.t 1),none⟩,⟨some 66,.load none (.t 65),none⟩,⟨some 67,.call (.c (.fn (f_ref04_Name N) [] [])) [(.t 66)],none⟩,⟨some 3,.mov (.t 67),none⟩,⟨some 6,.mov (.c (.lit (.int .i64 1))),none⟩]) (
 .seq (
 .ops [⟨some 69,.eq false .pint (.t 18) (.c (.lit (.int .i64 11))),none⟩,⟨some 68,.mov (.t 69),none⟩]) (
 .cond (.t 68) (
 .ops [⟨some 70,.faddr 2 (.t 1),none⟩,⟨some 71,.load none (.t 70),none⟩,⟨some 72,.call (.c (.fn (f_ref04_Tag N) [] [])) [(.t 71)],none⟩,⟨some 3,.mov (.t 72),none⟩,⟨some 6,.mov (.c (.lit (.int .i64 1))),none⟩]) (
 .seq (
 .ops [⟨some 74,.eq false .pint (.t 18) (.c (.lit (.int .i64 6))),none⟩,⟨some 73,.mov (.t 74),none⟩]) (
 .cond (.t 73) (
 .ops [⟨some 6,.mov (.c (.lit (.int .i64 2))),none⟩]) (
 .seq (
 .seq (
 .ops [⟨some 76,.eq false .pint (.t 18) (.c (.lit (.int .i64 7))),none⟩,⟨some 75,.mov (.t 76),none⟩]) (
 .cond (.t 75) (
 .skip) (
 .ops [⟨some 77,.eq false .pint (.t 18) (.c (.lit (.int .i64 8))),none⟩,⟨some 75,.mov (.t 77),none⟩]))) (
 .cond (.t 75) (
 .ops [⟨some 78,.faddr 2 (.t 1),none⟩,⟨some 79,.load none (.t 78),none⟩,⟨some 80,.call (.c (.fn (f_ref04_Name N) [] [])) [(.t 79)],none⟩,⟨some 3,.mov (.t 80),none⟩,⟨some 6,.mov (.c (.lit (.int .i64 2))),none⟩]) (
 .seq (
 .ops [⟨some 82,.eq false .pint (.t 18) (.c (.lit (.int .i64 14))),none⟩,⟨some 81,.mov (.t 82),none⟩]) (
 .cond (.t 81) (
 .ops [⟨some 83,.faddr 2 (.t 1),none⟩,⟨some 84,.load none (.t 83),none⟩,⟨some 85,.call (.c (.fn (f_ref04_op N) [] [])) [(.t 84)],none⟩,⟨some 3,.mov (.t 85),none⟩,⟨some 6,.mov (.c (.lit (.int .i64 2))),none⟩]) (
 .seq (
 .ops [⟨some 87,.eq false .pint (.t 18) (.c (.lit (.int .i64 9))),none⟩,⟨some 86,.mov (.t 87),none⟩]) (
 .cond (.t 86) (
 .ops [⟨some 6,.mov (.c (.lit (.int .i64 3))),none⟩]) (
 .seq (
 .ops [⟨some 89,.eq false .pint (.t 18) (.c (.lit (.int .i64 12))),none⟩,⟨some 88,.mov (.t 89),none⟩]) (
 .cond (.t 88) (
 .seq (
 .ops [⟨some 90,.faddr 2 (.t 1),none⟩,⟨some 91,.load none (.t 90),none⟩,⟨some 92,.eq false .pstr (.t 91) (.c (.lit (.string (mkS [])))),none⟩,⟨some 93,.mov (.t 92),none⟩,⟨some 94,.faddr 3 (.t 1),(some (93,true))⟩,⟨some 95,.load none (.t 94),(some (93,true))⟩,⟨some 96,.eq false .pint (.t 95) (.c (.lit (.int .i64 0))),(some (93,true))⟩,⟨some 97,.pick (.t 93) (.t 96) (.c (.lit (.bool false))),none⟩,⟨some 98,.mov (.t 97),none⟩,⟨some 99,.faddr 4 (.t 1),(some (98,true))⟩,⟨some 100,.load none (.t 99),(some (98,true))⟩,⟨some 101,.eq false .pint (.t 100) (.c (.lit (.int .u64 0))),(some (98,true))⟩,⟨some 102,.pick (.t 98) (.t 101) (.c (.lit (.bool false))),none⟩,⟨some 103,.mov (.t 102),none⟩,⟨some 104,.faddr 7 (.t 1),(some (103,true))⟩,⟨some 105,.load none (.t 104),(some (103,true))⟩,⟨some 106,.len (.t 105),(some (103,true))⟩,⟨some 107,.eq false .pint (.t 106) (.c (.lit (.int .i64 0))),(some (103,true))⟩,⟨some 108,.pick (.t 103) (.t 107) (.c (.lit (.bool false))),none⟩,⟨some 109,.mov (.t 108),none⟩,⟨some 110,.faddr 5 (.t 1),(some (109,true))⟩,⟨some 111,.load none (.t 110),(some (109,true))⟩,⟨some 112,.len (.t 111),(some (109,true))⟩,⟨some 113,.faddr 6 (.t 1),(some (109,true))⟩,⟨some 114,.load none (.t 113),(some (109,true))⟩,⟨some 115,.len (.t 114),(some (109,true))⟩,⟨some 116,.eq false .pint (.t 112) (.t 115),(some (109,true))⟩,⟨some 117,.pick (.t 109) (.t 116) (.c (.lit (.bool false))),none⟩,⟨some 118,.mov (.t 117),none⟩,⟨some 119,.faddr 5 (.t 1),(some (118,true))⟩,⟨some 120,.load none (.t 119),(some (118,true))⟩,⟨some 121,.call (.c (.fn (f_ref04_names N) [] [])) [(.t 120)],(some (118,true))⟩,⟨some 122,.pick (.t 118) (.t 121) (.c (.lit (.bool false))),none⟩,⟨some 123,.mov (.t 122),none⟩,⟨some 124,.faddr 5 (.t 1),(some (123,true))⟩,⟨some 125,.load none (.t 124),(some (123,true))⟩,⟨some 126,.call (.c (.fn (f_ref04_once N) [] [])) [(.t 125)],(some (123,true))⟩,⟨some 127,.pick (.t 123) (.t 126) (.c (.lit (.bool false))),none⟩,⟨some 2,.mov (.t 127),none⟩]) (
 .ret)) (
 .seq (
 .ops [⟨some 129,.eq false .pint (.t 18) (.c (.lit (.int .i64 10))),none⟩,⟨some 128,.mov (.t 129),none⟩]) (
 .cond (.t 128) (
 .seq (
 .ops [⟨some 130,.bslice (t_string N) 1 none 0 [(.lit (.string (mkS [])))] [],none⟩,⟨some 13,.mov (.t 130),none⟩]) (
 .seq (
 .seq (
 .ops [⟨some 131,.faddr 5 (.t 1),none⟩,⟨some 132,.load none (.t 131),none⟩,⟨some 133,.len (.t 132),none⟩,⟨some 134,.mov (.c (.lit (.int .i64 0))),none⟩]) (
 .block 1 (
 .loop (L_ref04_term_1 N)))) (K_ref04_term_1 N))) (
 .seq (
 .ops [⟨some 208,.eq false .pint (.t 18) (.c (.lit (.int .i64 15))),none⟩,⟨some 207,.mov (.t 208),none⟩]) (
 .cond (.t 207) (
 .ops [⟨some 6,.mov (.c (.lit (.int .i64 1))),none⟩,⟨some 7,.mov (.c (.lit (.int .i64 1))),none⟩]) (
 .seq (
 .ops [⟨some 210,.eq false .pint (.t 18) (.c (.lit (.int .i64 16))),none⟩,⟨some 209,.mov (.t 210),none⟩]) (
 .cond (.t 209) (
 .ops [⟨some 6,.mov (.c (.lit (.int .i64 1))),none⟩,⟨some 7,.mov (.c (.lit (.int .i64 2))),none⟩]) (
 .seq (
 .ops [⟨some 2,.mov (.c (.lit (.bool false))),none⟩]) (
 .ret)))))))))))))))))))))))))))))))))) (K_ref04_term_2 N)))),false⟩

def L_ref04_text_1 (N : Nat -> Nat) : AC :=
 .seq (
 .seq (
 .ops [⟨some 18,.mov (.t 6),none⟩,⟨some 19,.mov (.t 0),none⟩,⟨some 20,.lens (.t 19),none⟩,⟨some 21,.bin .lss (.t 18) (.t 20),none⟩]) (
 .cond (.t 21) (
 .skip) (
 .exit 0))) (
 .seq (
 .block 1 (
 .seq (
 .ops [⟨some 24,.mov (.t 0),none⟩,⟨some 25,.mov (.t 6),none⟩,⟨some 26,.sidx (.t 24) (.t 25),none⟩,⟨some 27,.bin .lss (.t 26) (.c (.lit (.int .u8 32))),none⟩,⟨some 28,.mov (.t 27),none⟩,⟨some 29,.mov (.t 0),(some (28,true))⟩,⟨some 30,.mov (.t 6),(some (28,true))⟩,⟨some 31,.sidx (.t 29) (.t 30),(some (28,true))⟩,⟨some 32,.eq true .pint (.t 31) (.c (.lit (.int .u8 10))),(some (28,true))⟩,⟨some 33,.pick (.t 28) (.t 32) (.c (.lit (.bool false))),none⟩]) (
 .cond (.t 33) (
 .seq (
 .ops [⟨some 2,.mov (.c (.lit (.bool false))),none⟩]) (
 .ret)) (
 .skip)))) (
 .ops [⟨some 22,.mov (.t 6),none⟩,⟨some 23,.bin .add (.t 22) (.c (.lit (.int .i64 1))),none⟩,⟨some 6,.mov (.t 23),none⟩]))
def K_ref04_text_1 (N : Nat -> Nat) : AC :=
 .seq (
 .ops [⟨some 2,.mov (.c (.lit (.bool true))),none⟩]) (
 .ret)
def C_ref04_text (N : Nat -> Nat) : AFunc := ⟨34,[.inl 2],
 .seq (
 .ops [⟨some 2,.mov (.c (.lit (.bool false))),none⟩]) (
 .seq (
 .ops [⟨some 8,.mov (.t 0),none⟩,⟨some 9,.conv (.bytes (t_uint8 N)) (.t 8),none⟩,⟨some 10,.call (.c (.fn (f_ref01_Signs N) [] [])) [(.t 9)],none⟩,⟨some 7,.mov (.t 10),none⟩,⟨some 11,.extract (.t 7) 0,none⟩,⟨some 12,.extract (.t 7) 1,none⟩,⟨some 13,.extract (.t 7) 2,none⟩,⟨some 3,.mov (.t 11),none⟩,⟨some 4,.mov (.t 12),none⟩,⟨some 5,.mov (.t 13),none⟩]) (
 .seq (
 .seq (
 .ops [⟨some 14,.mov (.t 5),none⟩,⟨some 15,.mov (.t 0),none⟩,⟨some 16,.lens (.t 15),none⟩,⟨some 17,.bin .lss (.t 14) (.t 16),none⟩]) (
 .cond (.t 17) (
 .seq (
 .ops [⟨some 2,.mov (.c (.lit (.bool false))),none⟩]) (
 .ret)) (
 .skip))) (
 .seq (
 .seq (
 .ops [⟨some 6,.mov (.c (.lit (.int .i64 0))),none⟩]) (
 .block 0 (
 .loop (L_ref04_text_1 N)))) (K_ref04_text_1 N)))),false⟩

def L_ref04_typ_1 (N : Nat -> Nat) : AC :=
 .seq (
 .ops [⟨some 92,.bin .lss (.t 91) (.t 90),none⟩]) (
 .seq (
 .cond (.t 92) (
 .skip) (
 .exit 1)) (
 .seq (
 .block 2 (
 .seq (
 .ops [⟨some 93,.iaddr 1 (.t 89) (.t 91),none⟩,⟨some 94,.load none (.t 93),none⟩,⟨some 4,.mov (.t 94),none⟩]) (
 .seq (
 .ops [⟨some 95,.mov (.t 4),none⟩,⟨some 96,.call (.c (.fn (f_ref04_Tag N) [] [])) [(.t 95)],none⟩,⟨some 97,.un .not (.t 96),none⟩]) (
 .cond (.t 97) (
 .seq (
 .ops [⟨some 2,.mov (.c (.lit (.bool false))),none⟩]) (
 .ret)) (
 .skip))))) (
 .ops [⟨some 98,.bin .add (.t 91) (.c (.lit (.int .i64 1))),none⟩,⟨some 91,.mov (.t 98),none⟩])))
def K_ref04_typ_1 (N : Nat -> Nat) : AC :=
 .seq (
 .ops [⟨some 99,.faddr 2 (.t 1),none⟩,⟨some 100,.load none (.t 99),none⟩,⟨some 101,.eq false .pstr (.t 100) (.c (.lit (.string (mkS [])))),none⟩,⟨some 102,.mov (.t 101),none⟩,⟨some 103,.faddr 3 (.t 1),(some (102,true))⟩,⟨some 104,.load none (.t 103),(some (102,true))⟩,⟨some 105,.call (.c (.fn (f_ref04_once N) [] [])) [(.t 104)],(some (102,true))⟩,⟨some 106,.pick (.t 102) (.t 105) (.c (.lit (.bool false))),none⟩,⟨some 107,.mov (.t 106),none⟩,⟨some 108,.faddr 4 (.t 1),(some (107,true))⟩,⟨some 109,.load none (.t 108),(some (107,true))⟩,⟨some 110,.len (.t 109),(some (107,true))⟩,⟨some 111,.faddr 3 (.t 1),(some (107,true))⟩,⟨some 112,.load none (.t 111),(some (107,true))⟩,⟨some 113,.len (.t 112),(some (107,true))⟩,⟨some 114,.eq false .pint (.t 110) (.t 113),(some (107,true))⟩,⟨some 115,.pick (.t 107) (.t 114) (.c (.lit (.bool false))),none⟩,⟨some 2,.mov (.t 115),none⟩]) (
 .ret)
def K_ref04_typ_2 (N : Nat -> Nat) : AC :=
 .seq (
 .ops [⟨some 2,.mov (.c (.lit (.bool false))),none⟩]) (
 .ret)
def C_ref04_typ (N : Nat -> Nat) : AFunc := ⟨138,[.inl 2],
 .seq (
 .ops [⟨some 1,.box (t_api_TypeNode N) (.t 0),none⟩,⟨some 2,.mov (.c (.lit (.bool false))),none⟩]) (
 .seq (
 .seq (
 .ops [⟨some 5,.faddr 0 (.t 1),none⟩,⟨some 6,.load none (.t 5),none⟩]) (
 .block 0 (
 .seq (
 .seq (
 .ops [⟨some 8,.eq false .pint (.t 6) (.c (.lit (.int .i64 0))),none⟩,⟨some 7,.mov (.t 8),none⟩]) (
 .cond (.t 7) (
 .skip) (
 .seq (
 .ops [⟨some 9,.eq false .pint (.t 6) (.c (.lit (.int .i64 1))),none⟩,⟨some 7,.mov (.t 9),none⟩]) (
 .cond (.t 7) (
 .skip) (
 .seq (
 .ops [⟨some 10,.eq false .pint (.t 6) (.c (.lit (.int .i64 2))),none⟩,⟨some 7,.mov (.t 10),none⟩]) (
 .cond (.t 7) (
 .skip) (
 .seq (
 .ops [⟨some 11,.eq false .pint (.t 6) (.c (.lit (.int .i64 3))),none⟩,⟨some 7,.mov (.t 11),none⟩]) (
 .cond (.t 7) (
 .skip) (
 .seq (
 .ops [⟨some 12,.eq false .pint (.t 6) (.c (.lit (.int .i64 4))),none⟩,⟨some 7,.mov (.t 12),none⟩]) (
 .cond (.t 7) (
 .skip) (
 .seq (
 .ops [⟨some 13,.eq false .pint (.t 6) (.c (.lit (.int .i64 5))),none⟩,⟨some 7,.mov (.t 13),none⟩]) (
 .cond (.t 7) (
 .skip) (
 .ops [⟨some 14,.eq false .pint (.t 6) (.c (.lit (.int .i64 6))),none⟩,⟨some 7,.mov (.t 14),none⟩]))))))))))))) (
 .cond (.t 7) (
 .seq (
 .ops [⟨some 15,.faddr 2 (.t 1),none⟩,⟨some 16,.load none (.t 15),none⟩,⟨some 17,.eq false .pstr (.t 16) (.c (.lit (.string (mkS [])))),none⟩,⟨some 18,.mov (.t 17),none⟩,⟨some 19,.faddr 5 (.t 1),(some (18,true))⟩,⟨some 20,.load none (.t 19),(some (18,true))⟩,⟨some 21,.un .not (.t 20),(some (18,true))⟩,⟨some 22,.pick (.t 18) (.t 21) (.c (.lit (.bool false))),none⟩,⟨some 23,.mov (.t 22),none⟩,⟨some 24,.faddr 3 (.t 1),(some (23,true))⟩,⟨some 25,.load none (.t 24),(some (23,true))⟩,⟨some 26,.len (.t 25),(some (23,true))⟩,⟨some 27,.eq false .pint (.t 26) (.c (.lit (.int .i64 0))),(some (23,true))⟩,⟨some 28,.pick (.t 23) (.t 27) (.c (.lit (.bool false))),none⟩,⟨some 29,.mov (.t 28),none⟩,⟨some 30,.faddr 4 (.t 1),(some (29,true))⟩,⟨some 31,.load none (.t 30),(some (29,true))⟩,⟨some 32,.len (.t 31),(some (29,true))⟩,⟨some 33,.eq false .pint (.t 32) (.c (.lit (.int .i64 0))),(some (29,true))⟩,⟨some 34,.pick (.t 29) (.t 33) (.c (.lit (.bool false))),none⟩,⟨some 2,.mov (.t 34),none⟩]) (
 .ret)) (
 .seq (
 .ops [⟨some 36,.eq false .pint (.t 6) (.c (.lit (.int .i64 7))),none⟩,⟨some 35,.mov (.t 36),none⟩]) (
 .cond (.t 35) (
 .seq (
 .ops [⟨some 37,.faddr 2 (.t 1),none⟩,⟨some 38,.load none (.t 37),none⟩,⟨some 39,.eq false .pstr (.t 38) (.c (.lit (.string (mkS [])))),none⟩,⟨some 40,.mov (.t 39),none⟩,⟨some 41,.faddr 5 (.t 1),(some (40,true))⟩,⟨some 42,.load none (.t 41),(some (40,true))⟩,⟨some 43,.un .not (.t 42),(some (40,true))⟩,⟨some 44,.pick (.t 40) (.t 43) (.c (.lit (.bool false))),none⟩,⟨some 45,.mov (.t 44),none⟩,⟨some 46,.faddr 3 (.t 1),(some (45,true))⟩,⟨some 47,.load none (.t 46),(some (45,true))⟩,⟨some 48,.len (.t 47),(some (45,true))⟩,⟨some 49,.eq false .pint (.t 48) (.c (.lit (.int .i64 0))),(some (45,true))⟩,⟨some 50,.pick (.t 45) (.t 49) (.c (.lit (.bool false))),none⟩,⟨some 51,.mov (.t 50),none⟩,⟨some 52,.faddr 4 (.t 1),(some (51,true))⟩,⟨some 53,.load none (.t 52),(some (51,true))⟩,⟨some 54,.len (.t 53),(some (51,true))⟩,⟨some 55,.eq false .pint (.t 54) (.c (.lit (.int .i64 2))),(some (51,true))⟩,⟨some 56,.pick (.t 51) (.t 55) (.c (.lit (.bool false))),none⟩,⟨some 2,.mov (.t 56),none⟩]) (
 .ret)) (
 .seq (
 .ops [⟨some 58,.eq false .pint (.t 6) (.c (.lit (.int .i64 8))),none⟩,⟨some 57,.mov (.t 58),none⟩]) (
 .cond (.t 57) (
 .seq (
 .ops [⟨some 59,.faddr 2 (.t 1),none⟩,⟨some 60,.load none (.t 59),none⟩,⟨some 61,.eq false .pstr (.t 60) (.c (.lit (.string (mkS [])))),none⟩,⟨some 62,.mov (.t 61),none⟩,⟨some 63,.faddr 5 (.t 1),(some (62,true))⟩,⟨some 64,.load none (.t 63),(some (62,true))⟩,⟨some 65,.un .not (.t 64),(some (62,true))⟩,⟨some 66,.pick (.t 62) (.t 65) (.c (.lit (.bool false))),none⟩,⟨some 67,.mov (.t 66),none⟩,⟨some 68,.faddr 3 (.t 1),(some (67,true))⟩,⟨some 69,.load none (.t 68),(some (67,true))⟩,⟨some 70,.call (.c (.fn (f_ref04_names N) [] [])) [(.t 69)],(some (67,true))⟩,⟨some 71,.pick (.t 67) (.t 70) (.c (.lit (.bool false))),none⟩,⟨some 72,.mov (.t 71),none⟩,⟨some 73,.faddr 3 (.t 1),(some (72,true))⟩,⟨some 74,.load none (.t 73),(some (72,true))⟩,⟨some 75,.call (.c (.fn (f_ref04_once N) [] [])) [(.t 74)],(some (72,true))⟩,⟨some 76,.pick (.t 72) (.t 75) (.c (.lit (.bool false))),none⟩,⟨some 77,.mov (.t 76),none⟩,⟨some 78,.faddr 4 (.t 1),(some (77,true))⟩,⟨some 79,.load none (.t 78),(some (77,true))⟩,⟨some 80,.len (.t 79),(some (77,true))⟩,⟨some 81,.faddr 3 (.t 1),(some (77,true))⟩,⟨some 82,.load none (.t 81),(some (77,true))⟩,⟨some 83,.len (.t 82),(some (77,true))⟩,⟨some 84,.eq false .pint (.t 80) (.t 83),(some (77,true))⟩,⟨some 85,.pick (.t 77) (.t 84) (.c (.lit (.bool false))),none⟩,⟨some 2,.mov (.t 85),none⟩]) (
 .ret)) (
 .seq (
 .ops [⟨some 87,.eq false .pint (.t 6) (.c (.lit (.int .i64 9))),none⟩,⟨some 86,.mov (.t 87),none⟩]) (
 .cond (.t 86) (
 .seq (
 .seq (
 .ops [⟨some 88,.faddr 3 (.t 1),none⟩,⟨some 89,.load none (.t 88),none⟩,⟨some 90,.len (.t 89),none⟩,⟨some 91,.mov (.c (.lit (.int .i64 0))),none⟩]) (
 .block 1 (
 .loop (L_ref04_typ_1 N)))) (K_ref04_typ_1 N)) (
 .seq (
 .ops [⟨some 117,.eq false .pint (.t 6) (.c (.lit (.int .i64 10))),none⟩,⟨some 116,.mov (.t 117),none⟩]) (
 .cond (.t 116) (
 .seq (
 .ops [⟨some 118,.faddr 2 (.t 1),none⟩,⟨some 119,.load none (.t 118),none⟩,⟨some 120,.call (.c (.fn (f_ref04_Alias N) [] [])) [(.t 119)],none⟩,⟨some 121,.mov (.t 120),none⟩,⟨some 122,.faddr 5 (.t 1),(some (121,true))⟩,⟨some 123,.load none (.t 122),(some (121,true))⟩,⟨some 124,.un .not (.t 123),(some (121,true))⟩,⟨some 125,.pick (.t 121) (.t 124) (.c (.lit (.bool false))),none⟩,⟨some 126,.mov (.t 125),none⟩,⟨some 127,.faddr 3 (.t 1),(some (126,true))⟩,⟨some 128,.load none (.t 127),(some (126,true))⟩,⟨some 129,.len (.t 128),(some (126,true))⟩,⟨some 130,.eq false .pint (.t 129) (.c (.lit (.int .i64 0))),(some (126,true))⟩,⟨some 131,.pick (.t 126) (.t 130) (.c (.lit (.bool false))),none⟩,⟨some 132,.mov (.t 131),none⟩,⟨some 133,.faddr 4 (.t 1),(some (132,true))⟩,⟨some 134,.load none (.t 133),(some (132,true))⟩,⟨some 135,.len (.t 134),(some (132,true))⟩,⟨some 136,.eq false .pint (.t 135) (.c (.lit (.int .i64 0))),(some (132,true))⟩,⟨some 137,.pick (.t 132) (.t 136) (.c (.lit (.bool false))),none⟩,⟨some 2,.mov (.t 137),none⟩]) (
 .ret)) (
 .skip))))))))))))) (K_ref04_typ_2 N)),false⟩

def L_ref04_uses_2 (N : Nat -> Nat) : AC :=
 .seq (
 .ops [⟨some 21,.bin .lss (.t 20) (.t 19),none⟩]) (
 .seq (
 .cond (.t 21) (
 .skip) (
 .exit 2)) (
 .seq (
 .block 3 (
 .seq (
 .ops [⟨some 22,.iaddr 1 (.t 18) (.t 20),none⟩,⟨some 23,.load none (.t 22),none⟩,⟨some 9,.mov (.t 23),none⟩]) (
 .seq (
 .ops [⟨some 24,.mov (.t 9),none⟩,⟨some 25,.bin .geq (.t 24) (.c (.lit (.int .i64 0))),none⟩,⟨some 26,.mov (.t 25),none⟩,⟨some 27,.mov (.t 9),(some (26,true))⟩,⟨some 28,.mov (.t 0),(some (26,true))⟩,⟨some 29,.bin .lss (.t 27) (.t 28),(some (26,true))⟩,⟨some 30,.pick (.t 26) (.t 29) (.c (.lit (.bool false))),none⟩]) (
 .cond (.t 30) (
 .ops [⟨some 31,.mov (.t 5),none⟩,⟨some 32,.mov (.t 9),none⟩,⟨some 33,.iaddr 1 (.t 31) (.t 32),none⟩,⟨some 34,.load none (.t 33),none⟩,⟨some 35,.bin .add (.t 34) (.c (.lit (.int .i64 1))),none⟩,⟨some 36,.iaddr 1 (.t 31) (.t 32),none⟩,⟨none,.store 1 (.t 36) (.t 35),none⟩]) (
 .skip))))) (
 .ops [⟨some 37,.bin .add (.t 20) (.c (.lit (.int .i64 1))),none⟩,⟨some 20,.mov (.t 37),none⟩])))
def K_ref04_uses_1 (N : Nat -> Nat) : AC :=
 .ops [⟨some 38,.bin .add (.t 14) (.c (.lit (.int .i64 1))),none⟩,⟨some 14,.mov (.t 38),none⟩]
def L_ref04_uses_1 (N : Nat -> Nat) : AC :=
 .seq (
 .ops [⟨some 15,.bin .lss (.t 14) (.t 13),none⟩]) (
 .seq (
 .cond (.t 15) (
 .skip) (
 .exit 0)) (
 .seq (
 .block 1 (
 .seq (
 .ops [⟨some 16,.iaddr 1 (.t 12) (.t 14),none⟩,⟨some 17,.load none (.t 16),none⟩,⟨some 7,.mov (.t 17),none⟩]) (
 .seq (
 .ops [⟨some 18,.mov (.t 7),none⟩,⟨some 19,.len (.t 18),none⟩,⟨some 20,.mov (.c (.lit (.int .i64 0))),none⟩]) (
 .block 2 (
 .loop (L_ref04_uses_2 N)))))) (K_ref04_uses_1 N)))
def K_ref04_uses_2 (N : Nat -> Nat) : AC :=
 .seq (
 .ops [⟨some 39,.mov (.t 5),none⟩,⟨some 4,.mov (.t 39),none⟩]) (
 .ret)
def C_ref04_uses (N : Nat -> Nat) : AFunc := ⟨40,[.inl 4],
 .seq (
 .ops [⟨some 4,.mov (.c (.lit (.slice none 0 0))),none⟩]) (
 .seq (
 .ops [⟨some 10,.mov (.t 0),none⟩,⟨some 11,.mkslice (t_int N) 1 8 (.lit (.int .i64 0)) (.t 10) (.t 10),none⟩,⟨some 5,.mov (.t 11),none⟩]) (
 .seq (
 .seq (
 .ops [⟨some 12,.mov (.t 1),none⟩,⟨some 13,.len (.t 12),none⟩,⟨some 14,.mov (.c (.lit (.int .i64 0))),none⟩]) (
 .block 0 (
 .loop (L_ref04_uses_1 N)))) (K_ref04_uses_2 N))),false⟩
end Go.Proofs.Eng
namespace Go.Proofs.Eng
open Go
structure RefK (Γ : Sums) (A : Tab) (N : Nat -> Nat) : Prop where
 signs : Ref01 Γ A N
 tag : Ref04N Γ A N
 word : Has Γ A (f_ref03_IsWord N) (C_ref03_IsWord N)
 names : Has Γ A (f_ref04_names N) (C_ref04_names N)
 once : Has Γ A (f_ref04_once N) (C_ref04_once N)
 below : Has Γ A (f_ref04_below N) (C_ref04_below N)
 op : Has Γ A (f_ref04_op N) (C_ref04_op N)
 alias : Has Γ A (f_ref04_Alias N) (C_ref04_Alias N)
 parts : Has Γ A (f_ref02_Parts N) (C_ref02_Parts N)
 text : Has Γ A (f_ref04_text N) (C_ref04_text N)
 term : Has Γ A (f_ref04_term N) (C_ref04_term N)
 typ : Has Γ A (f_ref04_typ N) (C_ref04_typ N)
 uses : Has Γ A (f_ref04_uses N) (C_ref04_uses N)
 right : Has Γ A (f_ref04_Right N) (C_ref04_Right N)
theorem all_take {α : Type} {p : α -> Bool} {l : List α} {i : Nat} (hi : i < l.length) (h : (l.take i).all p = true) : (l.take (i + 1)).all p = p l[i] := by
 rw [List.take_succ_eq_append_getElem hi,List.all_append,h]
 simp
theorem all_false {α : Type} {p : α -> Bool} {l : List α} {i : Nat} (hi : i < l.length) (h : p l[i] = false) : l.all p = false := by
 rw [Bool.eq_false_iff]
 intro hh
 have := List.all_eq_true.1 hh l[i] (List.getElem_mem hi)
 rw [h] at this
 cases this
def belowB (row : List Int) (n : Int) : Bool := row.all fun k => decide (0 <= k) && decide (k < n)
section
variable {Γ : Sums} {A : Tab} {N : Nat -> Nat}
theorem ref04_below_call (h : Has Γ A (f_ref04_below N) (C_ref04_below N)) {H : Hp} {x : AV} {row : List Int} {n : Int} (hx : VI H x row) (hl : row.length < 2 ^ 60) : (lim Γ A).call (f_ref04_below N) [x,avInt .i64 n] H = some (avBool (belowB row n),none) := by
 have hlen := VI.len hx
 apply h.call (by rfl)
 simp [C_ref04_below,hlen,-Int.natCast_add]
 refine wp_round (fun k ρ H' => H' = { l := H.l,d := none } /\ ∃ i : Nat,ρ 1 = avInt .i64 n /\ ρ 7 = x /\ ρ 8 = avInt .i64 row.length /\ ρ 9 = avInt .i64 i /\ i <= row.length /\ (row.take i).all (fun k => decide (0 <= k) && decide (k < n)) = true /\ k = row.length - i) (n := row.length) ⟨rfl,0,rfl,rfl,rfl,rfl,by omega,by simp,rfl⟩ ?_
 rintro k ρ H' ⟨rfl,i,r1,r7,r8,r9,hi,ha,rfl⟩
 have hx' : VI { l := H.l,d := none } x row := hx.keep fun id hid => rfl
 by_cases hlt : i < row.length
 ·have hlt' : (i : Int) < row.length := by omega
  obtain ⟨q,q1,q2⟩ := hx'.at' (k := .i64) (i := (i : Int)) (e := avInt .i64 row[i]) (by omega) (by simp [List.getElem?_eq_getElem hlt]) rfl rfl rfl
  have hw : IntKind.wrap .i64 ((i : Int) + 1) = ((i + 1 : Nat) : Int) := by rw [wrap64 (by omega) (by omega)]; omega
  have ht := all_take hlt ha
  have hf : (decide (0 <= row[i]) && decide (row[i] < n)) = false -> belowB row n = false := fun hh => all_false hlt hh
  generalize row[i] = e at *
  by_cases c1 : e < 0
  ·have : belowB row n = false := hf (by simp; omega)
   simp [L_ref04_below_1,r1,r7,r8,r9,hlt',q1,q2,c1,this,settle,keeps]
  ·by_cases c2 : n <= e
   ·have : belowB row n = false := hf (by simp; omega)
    simp [L_ref04_below_1,r1,r7,r8,r9,hlt',q1,q2,c1,c2,this,settle,keeps]
   ·simp [L_ref04_below_1,r1,r7,r8,r9,hlt',q1,q2,c1,c2,hw,-Int.natCast_add]
    refine ⟨row.length - (i + 1),by omega,i + 1,rfl,by omega,?_,rfl⟩
    have := ht.trans (show _ = true by simp; omega)
    simpa using this
 ·have hlt' : ¬ (i : Int) < row.length := by omega
  have hie : i = row.length := by omega
  subst hie
  rw [List.take_length] at ha
  have : belowB row n = true := ha
  simp [L_ref04_below_1,K_ref04_below_1,r1,r7,r8,r9,this,settle,keeps]
theorem ref04_names_call (h : RefK Γ A N) {H : Hp} {x : AV} {l : List (List UInt8)} (hx : VS H x l) (hl : l.length < 2 ^ 60) (hs : ∀ s ∈ l,s.length < 2 ^ 36) : (lim Γ A).call (f_ref04_names N) [x] H = some (avBool (l.all isNameB),none) := by
 have hlen := VS.len hx
 apply h.names.call (by rfl)
 simp [C_ref04_names,hlen,-Int.natCast_add]
 refine wp_round (fun k ρ H' => H' = { l := H.l,d := none } /\ ∃ i : Nat,ρ 5 = x /\ ρ 6 = avInt .i64 l.length /\ ρ 7 = avInt .i64 i /\ i <= l.length /\ (l.take i).all isNameB = true /\ k = l.length - i) (n := l.length) ⟨rfl,0,rfl,rfl,rfl,by omega,by simp,rfl⟩ ?_
 rintro k ρ H' ⟨rfl,i,r5,r6,r7,hi,ha,rfl⟩
 have hx' : VS { l := H.l,d := none } x l := hx.keep fun id hid => rfl
 by_cases hlt : i < l.length
 ·have hlt' : (i : Int) < l.length := by omega
  obtain ⟨q,q1,q2⟩ := hx'.at' (k := .i64) (i := (i : Int)) (e := avStr l[i]) (by omega) (by simp [List.getElem?_eq_getElem hlt]) rfl rfl rfl
  have hw : IntKind.wrap .i64 ((i : Int) + 1) = ((i + 1 : Nat) : Int) := by rw [wrap64 (by omega) (by omega)]; omega
  have ht := all_take hlt ha
  have ec := ref04_Name_call' h.tag h.word l[i] (hs _ (List.getElem_mem hlt)) { l := H.l,d := none }
  have hf : isNameB l[i] = false -> l.all isNameB = false := fun hh => all_false hlt hh
  generalize l[i] = e at *
  rcases hb : isNameB e with _ | _
  ·rw [hb] at ec
   simp [L_ref04_names_1,r5,r6,r7,hlt',q1,q2,ec,hf hb,settle,keeps]
  ·rw [hb] at ec ht
   simp [L_ref04_names_1,r5,r6,r7,hlt',q1,q2,ec,hw,-Int.natCast_add]
   exact ⟨l.length - (i + 1),by omega,i + 1,rfl,by omega,by simpa using ht,rfl⟩
 ·have hlt' : ¬ (i : Int) < l.length := by omega
  have hie : i = l.length := by omega
  subst hie
  rw [List.take_length] at ha
  simp [L_ref04_names_1,K_ref04_names_1,r5,r6,r7,ha,settle,keeps]
theorem ref04_op_call (h : RefK Γ A N) (s : List UInt8) (H : Hp) : (lim Γ A).call (f_ref04_op N) [avStr s] H = some (avBool (decide (s ∈ opsL)),none) := by
 apply h.op.call (by rfl)
 by_cases hm : s ∈ opsL
 ·have hm2 := hm
  simp only [opsL,List.mem_cons,List.not_mem_nil,or_false] at hm2
  rcases hm2 with rfl | rfl | rfl | rfl | rfl | rfl | rfl | rfl | rfl | rfl | rfl | rfl <;> simp [C_ref04_op,opsL,settle,keeps]
 ·have hm2 := hm
  simp only [opsL,List.mem_cons,List.not_mem_nil,or_false,not_or] at hm2
  obtain ⟨h1,h2,h3,h4,h5,h6,h7,h8,h9,h10,h11,h12⟩ := hm2
  simp [C_ref04_op,hm,h1,h2,h3,h4,h5,h6,h7,h8,h9,h10,h11,h12,settle,keeps]
end
end Go.Proofs.Eng
