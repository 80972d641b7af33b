/- Seat 5: what its table holds for the law TreeSame; the summaries; the law's lives; the argument. -/
import Derived.Test.YtcmdnlpkplaapaaM37
import Derived.Test.YtcmdnlpkplaapaaEngAG
import Derived.Test.YtcmdnlpkplaapaaEngAM
import Derived.Test.YtcmdnlpkplaapaaTabA5s
set_option linter.unusedVariables false
set_option maxRecDepth 100000
namespace Go.Proofs.Y5s
open Go Go.Proofs.Eng
def fIB : FuncId := f_internal_bytealg_IndexByteString nm
def fFB : FuncId := f_math_Float64frombits nm
def gam : Sums := gOr (gIndexByte fIB) (gFromBits fFB)
theorem has {f : FuncId} {fn : AFunc} (h : tab f = some fn) (h1 : (f == fIB) = false) (h2 : (f == fFB) = false) : Has gam tab f fn := by
 refine ⟨h,fun args H => ?_⟩
 have e1 : f ≠ fIB := by simpa using h1
 have e2 : f ≠ fFB := by simpa using h2
 simp [gam,gOr,gIndexByte,gFromBits,e1,e2]
theorem hasR {f : FuncId} {fn : AFunc} (h : tab f = some fn) (hk : (f == fIB || f == fFB) = false) : Has gam tab f fn := by
 rw [Bool.or_eq_false_iff] at hk
 exact has h hk.1 hk.2
theorem idxS (s : List UInt8) (c : UInt8) (H : Hp) : (lim gam tab).call fIB [avStr s,avByte c] H = some (avInt .i64 (idxOf (mkS s) c.toNat),none) := by
 rw [lim_call_eq]
 simp [gam,gOr,gIndexByte,avByte]
theorem fib_ne : fFB ≠ fIB := by
 have : (fFB == fIB) = false := by kernel_rfl
 simpa using this
theorem bits (n : Int) (H : Hp) : (lim gam tab).call fFB [avInt .u64 n] H = some (.lit (.float .f64 n.toNat),none) := by
 rw [lim_call_eq]
 simp [gam,gOr,gIndexByte,gFromBits,fib_ne]
theorem hasS : LexS gam tab nm := ⟨hasR tab_lexer_low (by kernel_rfl),hasR tab_lexer_high (by kernel_rfl),hasR tab_lexer_digit (by kernel_rfl),hasR tab_lexer_inName (by kernel_rfl),hasR tab_lexer_inAlias (by kernel_rfl),hasR tab_lexer_blank_1 (by kernel_rfl),hasR tab_lexer_run (by kernel_rfl),hasR tab_lexer_words (by kernel_rfl),hasR tab_lexer_signs (by kernel_rfl),hasR tab_slices_Contains_sl_string_string (by kernel_rfl),hasR tab_slices_Index_sl_string_string (by kernel_rfl),hasR tab_lexer_IsWord (by kernel_rfl),hasR tab_lexer_IsName (by kernel_rfl),hasR tab_lexer_number (by kernel_rfl)⟩
theorem hasT : LexT gam tab nm := ⟨⟨hasR tab_strings_HasPrefix (by kernel_rfl),hasR tab_internal_stringslite_HasPrefix (by kernel_rfl)⟩,hasR tab_strings_CutPrefix (by kernel_rfl),hasR tab_internal_stringslite_CutPrefix (by kernel_rfl),hasR tab_strings_IndexByte (by kernel_rfl),hasR tab_internal_stringslite_IndexByte (by kernel_rfl),idxS,bits,hasR tab_floats_Of (by kernel_rfl),hasR tab_floats_Parse (by kernel_rfl),hasR tab_lexer_float (by kernel_rfl),hasR tab_lexer_text (by kernel_rfl),hasR tab_lexer_blank (by kernel_rfl)⟩
theorem hasO : LexO gam tab nm := ⟨hasS,hasT,hasR tab_lexer_one (by kernel_rfl)⟩
theorem hasA : LexA gam tab nm := ⟨hasO,⟨hasR tab_runes_size (by kernel_rfl),hasR tab_runes_sign (by kernel_rfl),hasR tab_runes_first (by kernel_rfl),hasR tab_runes_All (by kernel_rfl),hasR tab_runes_All_1 (by kernel_rfl)⟩,hasR tab_runes_Bad (by kernel_rfl),hasR tab_lexer_Lex (by kernel_rfl)⟩
theorem hasC : TreeC gam tab nm := ⟨hasA,hasR tab_slices_IndexFunc_sl_string_string (by kernel_rfl),hasR tab_slices_IndexFunc_sl_byte_byte (by kernel_rfl),hasR tab_slices_IndexFunc_tree_uses_int (by kernel_rfl),hasR tab_slices_ContainsFunc_sl_string_string (by kernel_rfl),hasR tab_slices_ContainsFunc_sl_byte_byte (by kernel_rfl),hasR tab_slices_ContainsFunc_tree_uses_int (by kernel_rfl),hasR tab_tree_shapes (by kernel_rfl),hasR tab_tree_ops (by kernel_rfl),hasR tab_tree_tag (by kernel_rfl),hasR tab_tree_alias (by kernel_rfl),hasR tab_tree_text (by kernel_rfl),hasR tab_tree_text_1 (by kernel_rfl),hasR tab_tree_once (by kernel_rfl),hasR tab_tree_all (by kernel_rfl),hasR tab_tree_all_1 (by kernel_rfl),hasR tab_tree_halves (by kernel_rfl),hasR tab_tree_named (by kernel_rfl),hasR tab_tree_term (by kernel_rfl),hasR tab_tree_typ (by kernel_rfl),hasR tab_tree_uses_note (by kernel_rfl),hasR tab_tree_Check_1 (by kernel_rfl),hasR tab_tree_Check (by kernel_rfl)⟩
theorem hasTwo : TwoC gam tab nm := ⟨hasR tab_tree_two_types (by kernel_rfl),hasR tab_tree_two_terms (by kernel_rfl),hasR tab_slices_Equal_sl_string_string (by kernel_rfl)⟩
theorem lives_04 (a b c a2 b2 c2 : AV) : (lim gam tab).call (f_law04_lives nm) [] { l := [some (.cells [a,b,c] (t_api_Tree nm)),some (.cells [a2,b2,c2] (t_api_Tree nm))],d := none } = some (avBool true,none) := lim_of_env (n := 60) (isT_spec (by kernel_rfl))
theorem gamok : GOK Try.prog gam := gOr_ok (indexByte_ok (f0 := fIB) (fn := Try.f107) Try.func107 (by kernel_rfl) (by kernel_rfl) (by rfl) (by rfl)) (fromBits_ok (f0 := fFB) (fn := Try.f76) Try.func76 (by kernel_rfl) (by kernel_rfl) (by rfl) (by rfl))
theorem hasB : TreeB gam tab nm := ⟨hasR tab_slices_Clone_sl_string_string (by kernel_rfl),hasR tab_slices_Clone_sl_int_int (by kernel_rfl),hasR tab_slices_Clone_sl_api_Alias_api_Alias (by kernel_rfl),hasR tab_tree_cloneTerm (by kernel_rfl),hasR tab_tree_cloneType (by kernel_rfl),hasR tab_p_tree_Builder_Term (by kernel_rfl),hasR tab_p_tree_Builder_Type (by kernel_rfl),hasR tab_tree_New (by kernel_rfl),hasR tab_tree_Clone (by kernel_rfl),hasR tab_p_tree_Builder_Tree (by kernel_rfl)⟩
theorem has04N : Ref04N gam tab nm := ⟨hasR tab_ref04_Tag (by kernel_rfl),hasR tab_ref04_Name (by kernel_rfl)⟩
theorem has01 : Ref01 gam tab nm := ⟨hasR tab_ref01_value (by kernel_rfl),hasR tab_ref01_Encode (by kernel_rfl),hasR tab_ref01_First (by kernel_rfl),hasR tab_ref01_Signs (by kernel_rfl)⟩
theorem hasK : RefK gam tab nm := ⟨has01,has04N,hasR tab_ref03_IsWord (by kernel_rfl),hasR tab_ref04_names (by kernel_rfl),hasR tab_ref04_once (by kernel_rfl),hasR tab_ref04_below (by kernel_rfl),hasR tab_ref04_op (by kernel_rfl),hasR tab_ref04_Alias (by kernel_rfl),hasR tab_ref02_Parts (by kernel_rfl),hasR tab_ref04_text (by kernel_rfl),hasR tab_ref04_term (by kernel_rfl),hasR tab_ref04_typ (by kernel_rfl),hasR tab_ref04_uses (by kernel_rfl),hasR tab_ref04_Right (by kernel_rfl)⟩
theorem hasSames : SamesC gam tab nm := ⟨hasC,hasTwo,hasR tab_tree_Same (by kernel_rfl),hasB,hasR tab_law04_Few (by kernel_rfl),hasK,⟨hasR tab_ref04_same (by kernel_rfl),hasR tab_ref04_SameType (by kernel_rfl),hasR tab_ref04_SameTerm (by kernel_rfl)⟩,hasR tab_ref04_Same (by kernel_rfl),hasR tab_law04_TreeSame (by kernel_rfl)⟩
theorem max_lt : maxLen < 2 ^ 63 := by decide
theorem u64_wf {m : Int} (h : (Lit.int .u64 m).wf = true) : 0 <= m /\ m < 2 ^ 64 := by
 simp only [Lit.wf,Bool.and_eq_true,decide_eq_true_eq] at h
 have e1 : IntKind.min .u64 = 0 := by decide
 have e2 : IntKind.max .u64 = 2 ^ 64 - 1 := by decide
 rw [e1,e2] at h
 omega
theorem node_of {ys : List AV} (h : WT Try.prog 4 32 ys) : ∃ n : Nd,NdR { l := [],d := none } (.agg ys) n /\ (n.names.length < 2 ^ 63 /\ n.wf) := by
 have hm := max_lt
 obtain ⟨h6,h7⟩ := wt_fields Try.underlying32 h
 rw [show Try.prog.cellsOf 32 = 8 from by kernel_rfl] at h6
 obtain ⟨a,b,c,d,e,f,g,i,rfl⟩ : ∃ a b c d e f g i,ys = [a,b,c,d,e,f,g,i] := by
  match ys,h6 with
  | [a,b,c,d,e,f,g,i],_ => exact ⟨a,b,c,d,e,f,g,i,rfl⟩
 simp only [List.forall_mem_cons,show Try.prog.cellsOf 3 = 1 from by kernel_rfl,show Try.prog.cellsOf 9 = 1 from by kernel_rfl,show Try.prog.cellsOf 2 = 1 from by kernel_rfl,show Try.prog.cellsOf 28 = 1 from by kernel_rfl,show Try.prog.cellsOf 29 = 1 from by kernel_rfl,show Try.prog.cellsOf 30 = 1 from by kernel_rfl] at h7
 obtain ⟨f1,f2,f3,f4,f5,f6,f7,f8,_⟩ := h7
 obtain ⟨k1,rfl,_⟩ := wt_int Try.underlying3 f1
 obtain ⟨k2,rfl,_⟩ := wt_int Try.underlying3 f2
 obtain ⟨k3,rfl,_⟩ := wt_str Try.underlying9 f3
 obtain ⟨k4,rfl,_⟩ := wt_int Try.underlying2 f4
 obtain ⟨k5,rfl,hk5⟩ := wt_int Try.underlying28 f5
 obtain ⟨l1,q1,q2,_⟩ := wt_strs Try.underlying29 Try.underlying9 (by kernel_rfl) f6
 obtain ⟨l2,q3,_⟩ := wt_ints Try.underlying30 Try.underlying3 (by kernel_rfl) f7
 obtain ⟨l3,q4,_⟩ := wt_ints Try.underlying30 Try.underlying3 (by kernel_rfl) f8
 exact ⟨⟨k1,k2,k3,k4,k5,l1,l2,l3⟩,⟨f,g,i,rfl,.inl q1,.inl q3,.inl q4⟩,by show l1.length < 2 ^ 63; omega,u64_wf hk5⟩
theorem type_of {ys : List AV} (h : WT Try.prog 4 35 ys) : ∃ n : Ty,TyR { l := [],d := none } (.agg ys) n /\ n.names.length < 2 ^ 63 := by
 have hm := max_lt
 obtain ⟨h6,h7⟩ := wt_fields Try.underlying35 h
 rw [show Try.prog.cellsOf 35 = 6 from by kernel_rfl] at h6
 obtain ⟨a,b,c,d,e,f,rfl⟩ : ∃ a b c d e f,ys = [a,b,c,d,e,f] := by
  match ys,h6 with
  | [a,b,c,d,e,f],_ => exact ⟨a,b,c,d,e,f,rfl⟩
 simp only [List.forall_mem_cons,show Try.prog.cellsOf 3 = 1 from by kernel_rfl,show Try.prog.cellsOf 9 = 1 from by kernel_rfl,show Try.prog.cellsOf 4 = 1 from by kernel_rfl,show Try.prog.cellsOf 29 = 1 from by kernel_rfl,show Try.prog.cellsOf 30 = 1 from by kernel_rfl] at h7
 obtain ⟨f1,f2,f3,f4,f5,f6,_⟩ := h7
 obtain ⟨k1,rfl,_⟩ := wt_int Try.underlying3 f1
 obtain ⟨k2,rfl,_⟩ := wt_int Try.underlying3 f2
 obtain ⟨k3,rfl,_⟩ := wt_str Try.underlying9 f3
 obtain ⟨l1,q1,q2,_⟩ := wt_strs Try.underlying29 Try.underlying9 (by kernel_rfl) f4
 obtain ⟨l2,q3,_⟩ := wt_ints Try.underlying30 Try.underlying3 (by kernel_rfl) f5
 obtain ⟨o,rfl⟩ := wt_bool Try.underlying4 f6
 exact ⟨⟨k1,k2,k3,l1,l2,o⟩,⟨d,e,rfl,.inl q1,.inl q3⟩,by show l1.length < 2 ^ 63; omega⟩
theorem alias_of {ys : List AV} (h : WT Try.prog 4 57 ys) : ∃ n : Al,AV.agg ys = alV n := by
 obtain ⟨h6,h7⟩ := wt_fields Try.underlying57 h
 rw [show Try.prog.cellsOf 57 = 3 from by kernel_rfl] at h6
 obtain ⟨a,b,c,rfl⟩ : ∃ a b c,ys = [a,b,c] := by
  match ys,h6 with
  | [a,b,c],_ => exact ⟨a,b,c,rfl⟩
 simp only [List.forall_mem_cons,show Try.prog.cellsOf 3 = 1 from by kernel_rfl,show Try.prog.cellsOf 9 = 1 from by kernel_rfl] at h7
 obtain ⟨f1,f2,f3,_⟩ := h7
 obtain ⟨k1,rfl,_⟩ := wt_str Try.underlying9 f1
 obtain ⟨k2,rfl,_⟩ := wt_int Try.underlying3 f2
 obtain ⟨k3,rfl,_⟩ := wt_int Try.underlying3 f3
 exact ⟨⟨k1,k2,k3⟩,rfl⟩
theorem pick {α β : Type} {Q : α -> β -> Prop} : ∀ {l : List α},(∀ z ∈ l,∃ n,Q z n) -> ∃ ns : List β,ns.length = l.length /\ ∀ (i : Nat) (z : α) (n : β),l[i]? = some z -> ns[i]? = some n -> Q z n
 | [],_ => ⟨[],rfl,fun i z n h => by simp at h⟩
 | a :: l,h => by
  obtain ⟨n,hn⟩ := h a (by simp)
  obtain ⟨ns,h1,h2⟩ := pick (l := l) fun z hz => h z (by simp [hz])
  refine ⟨n :: ns,by simp [h1],fun i z m hz hm => ?_⟩
  cases i with
  | zero => simp at hz hm; subst hz; subst hm; exact hn
  | succ i => simp at hz hm; exact h2 i z m hz hm
theorem rows_of {α : Type} {Q : Hp -> AV -> α -> Prop} {sz : Nat} {x : AV} {l : List (List AV)} {p : α -> Prop} (h : Fzr sz x (l.map .agg)) (hq : ∀ ys ∈ l,∃ n,Q { l := [],d := none } (.agg ys) n /\ p n) : ∃ ns : List α,RowR Q sz { l := [],d := none } x ns /\ ns.length = l.length /\ ∀ n ∈ ns,p n := by
 obtain ⟨ns,h1,h2⟩ := pick hq
 refine ⟨ns,⟨l.map .agg,.inl h,by simp [h1],fun i y n hy hn => ?_⟩,h1,fun n hn => ?_⟩
 ·rw [List.getElem?_map] at hy
  cases hz : l[i]? with
  | none => rw [hz] at hy; simp at hy
  | some z =>
   rw [hz] at hy
   simp at hy
   subst hy
   exact (h2 i z n hz hn).1
 ·obtain ⟨i,hi,rfl⟩ := List.mem_iff_getElem.1 hn
  exact (h2 i (l[i]'(by omega)) ns[i] (List.getElem?_eq_getElem _) (List.getElem?_eq_getElem _)).2
theorem tree_of {xs : List AV} (h : WT Try.prog 6 40 xs) : ∃ a b c t,xs = [a,b,c] /\ TrR { l := [],d := none } (.agg [a,b,c]) t /\ (∀ n ∈ t.nodes,n.wf) /\ ((∀ n ∈ t.nodes,n.names.length < 2 ^ 63) /\ ∀ n ∈ t.types,n.names.length < 2 ^ 63) /\ (t.nodes.length < 2 ^ 63 /\ t.types.length < 2 ^ 63 /\ t.als.length < 2 ^ 63) := by
 have hm := max_lt
 obtain ⟨h6,h7⟩ := wt_fields Try.underlying40 h
 rw [show Try.prog.cellsOf 40 = 3 from by kernel_rfl] at h6
 obtain ⟨a,b,c,rfl⟩ : ∃ a b c,xs = [a,b,c] := by
  match xs,h6 with
  | [a,b,c],_ => exact ⟨a,b,c,rfl⟩
 simp only [List.forall_mem_cons,show Try.prog.cellsOf 36 = 1 from by kernel_rfl,show Try.prog.cellsOf 37 = 1 from by kernel_rfl,show Try.prog.cellsOf 38 = 1 from by kernel_rfl] at h7
 obtain ⟨f1,f2,f3,_⟩ := h7
 obtain ⟨l1,p1,p2,p3⟩ := wt_structs Try.underlying36 Try.underlying32 f1
 obtain ⟨l2,q1,q2,q3⟩ := wt_structs Try.underlying37 Try.underlying35 f2
 obtain ⟨l3,r1,r2,r3⟩ := wt_structs Try.underlying38 Try.underlying57 f3
 rw [show Try.prog.cellsOf 32 = 8 from by kernel_rfl] at p1
 rw [show Try.prog.cellsOf 35 = 6 from by kernel_rfl] at q1
 rw [show Try.prog.cellsOf 57 = 3 from by kernel_rfl] at r1
 obtain ⟨nd,u1,u2,u3⟩ := rows_of (Q := NdR) (p := fun n => n.names.length < 2 ^ 63 /\ n.wf) p1 fun ys hy => node_of (p3 ys hy).2
 obtain ⟨ty,v1,v2,v3⟩ := rows_of (Q := TyR) (p := fun n => n.names.length < 2 ^ 63) q1 fun ys hy => type_of (q3 ys hy).2
 obtain ⟨al,w1,w2,_⟩ := rows_of (Q := AlR) (p := fun _ => True) r1 fun ys hy => by obtain ⟨n,hn⟩ := alias_of (r3 ys hy).2; exact ⟨n,hn,trivial⟩
 exact ⟨a,b,c,⟨nd,ty,al⟩,rfl,⟨a,b,c,rfl,u1,v1,w1⟩,fun n hn => (u3 n hn).2,⟨fun n hn => (u3 n hn).1,v3⟩,by simp only; omega⟩
theorem law_same {xs ys : List AV} {n : Int} (h : WT Try.prog 6 40 xs) (h' : WT Try.prog 6 40 ys) : ∃ r,(lim gam tab).ent (f_law04_TreeSame nm) [.agg xs,.agg ys,.lit (.int .i64 n)] { l := [],d := none } = some r /\ r.1 = avBool true := by
 obtain ⟨a,b,c,t,rfl,h1,h2,h3,h4⟩ := tree_of h
 obtain ⟨a2,b2,c2,u,rfl,k1,k2,k3,k4⟩ := tree_of h'
 exact law_TreeSame hasSames (lives_04 a b c a2 b2 c2) h1 k1 h2 k2 h3 h4 k3 k4 n
end Go.Proofs.Y5s
