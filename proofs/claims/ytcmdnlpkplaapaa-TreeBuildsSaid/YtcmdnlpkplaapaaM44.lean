import Derived.Test.YtcmdnlpkplaapaaM37
import Derived.Test.YtcmdnlpkplaapaaM42
import Derived.Test.YtcmdnlpkplaapaaEngAO
import Derived.Test.YtcmdnlpkplaapaaM32
import Derived.Test.YtcmdnlpkplaapaaM35
/- Two trees of the same content are the same: run by the engine. -/
set_option linter.unusedVariables false
set_option linter.unusedSimpArgs false
set_option maxRecDepth 100000
namespace Go.Proofs.Eng
open Go
section
variable {Γ : Sums} {A : Tab} {N : Nat → Nat}
structure TwoC (Γ : Sums) (A : Tab) (N : Nat → Nat) : Prop where
  types : Has Γ A (f_tree_two_types N) (C_tree_two_types N)
  terms : Has Γ A (f_tree_two_terms N) (C_tree_two_terms N)
  equal : Has Γ A (f_slices_Equal_sl_string_string N) (C_slices_Equal_sl_string_string N)
theorem sliceEq_call (h : Has Γ A (f_slices_Equal_sl_string_string N) (C_slices_Equal_sl_string_string N)) {H : Hp} {x y : AV} {a : List (List UInt8)} (hx : VS H x a) (hy : VS H y a) (ha : a.length < 2 ^ 60) : (lim Γ A).call (f_slices_Equal_sl_string_string N) [x, y] H = some (avBool true, none) := by
  have lx := VS.len hx
  have ly := VS.len hy
  apply h.call (by rfl)
  simp [C_slices_Equal_sl_string_string, lx, ly, settle, keeps]
  refine wp_round (n := a.length) (fun m ρ H' => ∃ i : Nat, ρ 0 = x ∧ ρ 1 = y ∧ ρ 12 = avInt .i64 (a.length : Nat) ∧ ρ 13 = avInt .i64 (i : Nat) ∧ i ≤ a.length ∧ H' = { l := H.l, d := none } ∧ m = a.length - i) ⟨0, rfl, rfl, rfl, rfl, by omega, rfl, rfl⟩ ?_
  rintro m ρ H' ⟨i, r0, r1, r12, r13, hi, rfl, rfl⟩
  by_cases hlt : i < a.length
  · have hlt' : (i : Int) < a.length := by omega
    obtain ⟨p, p1, p2⟩ := (hx.dd none).at' (k := .i64) (i := (i : Int)) (e := avStr a[i]) (by omega) (by simp [hlt]) rfl rfl rfl
    obtain ⟨q, q1, q2⟩ := (hy.dd none).at' (k := .i64) (i := (i : Int)) (e := avStr a[i]) (by omega) (by simp [hlt]) rfl rfl rfl
    have hw : IntKind.wrap .i64 ((i : Int) + 1) = ((i + 1 : Nat) : Int) := by rw [wrap64 (by omega) (by omega)]; omega
    simp [L_slices_Equal_sl_string_string_1, r0, r1, r12, r13, hlt', p1, p2, q1, q2, hw, -Int.natCast_add]
    exact ⟨a.length - (i + 1), by omega, i + 1, rfl, by omega, rfl⟩
  · have hlt' : ¬ (i : Int) < a.length := by omega
    simp [L_slices_Equal_sl_string_string_1, K_slices_Equal_sl_string_string_1, r0, r1, r12, r13, hlt', settle, keeps]
theorem rid_lt {H : Hp} {n : Option Nat} {p v : AV} (h : aload H n p = some v) : ∀ id ∈ ridOf p, id < H.l.length := by
  intro id hid
  unfold aload at h
  split at h
  · split at h
    · rename_i e; simp [ridOf] at hid; subst hid; exact hget_lt e
    · cases h
  · split at h
    · rename_i e; simp [ridOf] at hid; subst hid; exact hget_lt e
    · cases h
  · simp [ridOf] at hid
  · cases h
def KidsY (l : List Ty) : Prop := ∀ (j : Nat) (n : Ty), l[j]? = some n → ∀ k ∈ n.kids, 0 ≤ k ∧ k < (j : Int)
theorem two_types_call (h : TwoC Γ A N) {a1 b1 c1 a2 b2 c2 : AV} {ty : List Ty} (ho : a1.one = true ∧ c1.one = true ∧ a2.one = true ∧ c2.one = true) (ok : ∀ n ∈ ty, n.ok) (hk : KidsY ty) : ∀ (f j : Nat) (H : Hp), j < f → j < ty.length → RowR TyR 6 H b1 ty → RowR TyR 6 H b2 ty →
    (lim Γ A).call (f_tree_two_types N) [.agg [a1, b1, c1, a2, b2, c2], avInt .i64 (j : Nat), avInt .i64 (j : Nat)] H = some (avBool true, none)
  | 0, j, H, hf, _, _, _ => by omega
  | f + 1, j, H, hf, hj, h1, h2 => by
    obtain ⟨o1, o2, o3, o4⟩ := ho
    obtain ⟨xs, x1, x2, x3⟩ := id h1
    obtain ⟨ys, y1, y2, y3⟩ := id h2
    obtain ⟨n, hn⟩ : ∃ n, ty[j]? = some n := ⟨_, List.getElem?_eq_getElem hj⟩
    have okn := ok n (List.mem_of_getElem? hn)
    obtain ⟨na, nb, e1, va, vb⟩ := x3 j xs[j] n (List.getElem?_eq_getElem (by omega)) hn
    obtain ⟨ma, mb, e2, wa, wb⟩ := y3 j ys[j] n (List.getElem?_eq_getElem (by omega)) hn
    have hx : xs[j]? = some (tyV n na nb) := by rw [List.getElem?_eq_getElem (by omega), e1]
    have hy : ys[j]? = some (tyV n ma mb) := by rw [List.getElem?_eq_getElem (by omega), e2]
    have pa := va.one
    have pb := vb.one
    have qa := wa.one
    have qb := wb.one
    have u1 := x1.one
    have u2 := y1.one
    obtain ⟨Hb, hHb⟩ : ∃ Hb, Hb = halloc { l := H.l, d := none } (.cells [a1, b1, c1, a2, b2, c2] (t_tree_two N)) := ⟨_, rfl⟩
    have kb : Keep H Hb := by rw [hHb]; exact keep_box H none _
    have hbox : hget Hb H.l.length = some (.cells [a1, b1, c1, a2, b2, c2] (t_tree_two N)) := by subst hHb; simp
    have hHb' := hHb.symm
    have hlb : Hb.l.length = H.l.length + 1 := by subst hHb; simp
    obtain ⟨p, p1, p2⟩ := (kb.vw x1).ats (k := .i64) (ys := [avInt .i64 n.kind, avInt .i64 n.pos, avStr n.name, na, nb, avBool n.opn]) hx rfl (by simp [pa, pb])
    obtain ⟨q, q1, q2⟩ := (kb.vw y1).ats (k := .i64) (ys := [avInt .i64 n.kind, avInt .i64 n.pos, avStr n.name, ma, mb, avBool n.opn]) hy rfl (by simp [qa, qb])
    have np : ¬ Hb.l.length ∈ ridOf p := fun hm => Nat.lt_irrefl _ (rid_lt p2 _ hm)
    have nq : ¬ Hb.l.length ∈ ridOf q := fun hm => Nat.lt_irrefl _ (rid_lt q2 _ hm)
    simp only [ridOf] at np nq
    have nb0 : ¬ Hb.l.length = H.l.length := by omega
    obtain ⟨cz, hcz⟩ : ∃ cz, cz = AObj.cells [.lit (.int .i64 0), .lit (.int .i64 0), .lit (.string (mkS [])), .lit (.slice none 0 0), .lit (.slice none 0 0), .lit (.bool false)] (t_api_TypeNode N) := ⟨_, rfl⟩
    obtain ⟨cm, hcm⟩ : ∃ cm, cm = AObj.cells [avInt .i64 n.kind, avInt .i64 n.pos, avStr n.name, na, nb, avBool n.opn] (t_api_TypeNode N) := ⟨_, rfl⟩
    obtain ⟨cn, hcn⟩ : ∃ cn, cn = AObj.cells [avInt .i64 n.kind, avInt .i64 n.pos, avStr n.name, ma, mb, avBool n.opn] (t_api_TypeNode N) := ⟨_, rfl⟩
    obtain ⟨H3, hH3⟩ : ∃ H3, H3 = hset (hset (halloc (halloc Hb cz) cz) Hb.l.length (some cm)) (Hb.l.length + 1) (some cn) := ⟨_, rfl⟩
    have hM0 : Mut { l := H.l, d := none } Hb [] := by rw [hHb]; exact (Mut.refl _ _).alloc _
    have hM3 : Mut { l := H.l, d := none } H3 [] := by
      rw [hH3]
      exact (((hM0.alloc _).alloc _).set (.inr (by simp only [hlb]; omega))).set (.inr (by simp only [hlb]; omega))
    have k3 : Keep H H3 := fun id hid => hM3.get hid (by simp)
    have f1 : hget H3 H.l.length = some (.cells [a1, b1, c1, a2, b2, c2] (t_tree_two N)) := by
      rw [hH3, hget_hset, if_neg (by omega), hget_hset, if_neg (by omega), hget_halloc, if_neg (by simp; omega), hget_halloc, if_neg (by omega)]
      exact hbox
    have f2 : hget H3 Hb.l.length = some cm := by
      rw [hH3, hget_hset, if_neg (by omega), hget_hset, if_pos rfl]
      simp
    have f3 : hget H3 (Hb.l.length + 1) = some cn := by
      rw [hH3, hget_hset, if_pos rfl]
      simp
    have hfin := settle_keeps (H := H) (H' := H3) (v := avBool true) (hM3.keeps rfl) (by rfl)
    have ee := sliceEq_call h.equal (k3.vw va) (k3.vw wa) (by have := okn.2.2.1; omega)
    have ln := VI.len vb
    have lm := VI.len wb
    have hkl := okn.2.2.2
    have hH3' := hH3.symm
    rw [hcz, hcm, hcn] at hH3'
    rw [hcm] at f2
    rw [hcn] at f3
    apply h.types.call (by rfl)
    simp [C_tree_two_types, o1, o2, o3, o4, u1, u2, hHb', hbox, loadC, p1, p2, q1, q2, pa, pb, qa, qb, np, nq, nb0, hH3', ee, f2, f3, ln, lm, -halloc_d, -hset_d]
    refine wp_round (n := n.kids.length) (fun m ρ H' => ∃ i : Nat, ρ 3 = .ptr H.l.length 0 ∧ ρ 7 = .ptr Hb.l.length 0 ∧ ρ 8 = .ptr (Hb.l.length + 1) 0 ∧ ρ 60 = avInt .i64 (n.kids.length : Nat) ∧ ρ 61 = avInt .i64 (i : Nat) ∧ i ≤ n.kids.length ∧ H' = H3 ∧ m = n.kids.length - i) ⟨0, rfl, rfl, rfl, rfl, rfl, by omega, rfl, rfl⟩ ?_
    rintro m ρ H' ⟨i, r3, r7, r8, r60, r61, hi, rfl, rfl⟩
    by_cases hlt : i < n.kids.length
    · have hlt' : (i : Int) < n.kids.length := by omega
      obtain ⟨k0, k1⟩ := hk j n hn n.kids[i] (List.getElem_mem hlt)
      obtain ⟨kn, hkn⟩ := Int.eq_ofNat_of_zero_le k0
      obtain ⟨p', t1, t2⟩ := (k3.vw vb).at' (k := .i64) (i := (i : Int)) (e := avInt .i64 (kn : Nat)) (by omega) (by simp [hlt, hkn]) rfl rfl rfl
      obtain ⟨q', s1, s2⟩ := (k3.vw wb).at' (k := .i64) (i := (i : Int)) (e := avInt .i64 (kn : Nat)) (by omega) (by simp [hlt, hkn]) rfl rfl rfl
      have ih := two_types_call h ⟨o1, o2, o3, o4⟩ ok hk f kn H' (by omega) (by omega) (k3.row (fun _ _ => k3.ty) h1) (k3.row (fun _ _ => k3.ty) h2)
      have hw : IntKind.wrap .i64 ((i : Int) + 1) = ((i + 1 : Nat) : Int) := by rw [wrap64 (by omega) (by omega)]; omega
      simp [L_tree_two_types_1, r3, r7, r8, r60, r61, hlt', f1, f2, f3, t1, t2, s1, s2, o1, o2, o3, o4, u1, u2, loadC, ih, hw, -Int.natCast_add]
      exact ⟨n.kids.length - (i + 1), by omega, i + 1, rfl, by omega, rfl⟩
    · have hlt' : ¬ (i : Int) < n.kids.length := by omega
      simp [L_tree_two_types_1, K_tree_two_types_1, r3, r7, r8, r60, r61, hlt', hfin]
theorem two_terms_call (h : TwoC Γ A N) {a1 b1 c1 a2 b2 c2 : AV} {ty : List Ty} {nd : List Nd} (ho : c1.one = true ∧ c2.one = true) (ok : ∀ n ∈ ty, n.ok) (okN : ∀ n ∈ nd, n.ok) (hk : KidsY ty) (hkN : ∀ (j : Nat) (n : Nd), nd[j]? = some n → (∀ k ∈ n.kids, 0 ≤ k ∧ k < (j : Int)) ∧ ∀ k ∈ n.types, 0 ≤ k ∧ k < (ty.length : Int)) : ∀ (f j : Nat) (H : Hp), j < f → j < nd.length → RowR NdR 8 H a1 nd → RowR NdR 8 H a2 nd → RowR TyR 6 H b1 ty → RowR TyR 6 H b2 ty →
    (lim Γ A).call (f_tree_two_terms N) [.agg [a1, b1, c1, a2, b2, c2], avInt .i64 (j : Nat), avInt .i64 (j : Nat)] H = some (avBool true, none)
  | 0, j, H, hf, _, _, _, _, _ => by omega
  | f + 1, j, H, hf, hj, h1, h2, g1, g2 => by
    obtain ⟨o2, o4⟩ := ho
    have o1 := g1.one
    have o3 := g2.one
    obtain ⟨xs, x1, x2, x3⟩ := id h1
    obtain ⟨ys, y1, y2, y3⟩ := id h2
    obtain ⟨n, hn⟩ : ∃ n, nd[j]? = some n := ⟨_, List.getElem?_eq_getElem hj⟩
    have okn := okN n (List.mem_of_getElem? hn)
    obtain ⟨na, nb, nc, e1, va, vb, vc⟩ := x3 j xs[j] n (List.getElem?_eq_getElem (by omega)) hn
    obtain ⟨ma, mb, mc, e2, wa, wb, wc⟩ := y3 j ys[j] n (List.getElem?_eq_getElem (by omega)) hn
    have hx : xs[j]? = some (ndV n na nb nc) := by rw [List.getElem?_eq_getElem (by omega), e1]
    have hy : ys[j]? = some (ndV n ma mb mc) := by rw [List.getElem?_eq_getElem (by omega), e2]
    have pa := va.one
    have pb := vb.one
    have pc := vc.one
    have qa := wa.one
    have qb := wb.one
    have qc := wc.one
    have u1 := x1.one
    have u2 := y1.one
    obtain ⟨Hb, hHb⟩ : ∃ Hb, Hb = halloc { l := H.l, d := none } (.cells [a1, b1, c1, a2, b2, c2] (t_tree_two N)) := ⟨_, rfl⟩
    have kb : Keep H Hb := by rw [hHb]; exact keep_box H none _
    have hbox : hget Hb H.l.length = some (.cells [a1, b1, c1, a2, b2, c2] (t_tree_two N)) := by subst hHb; simp
    have hHb' := hHb.symm
    have hlb : Hb.l.length = H.l.length + 1 := by subst hHb; simp
    obtain ⟨p, p1, p2⟩ := (kb.vw x1).ats (k := .i64) (ys := [avInt .i64 n.kind, avInt .i64 n.pos, avStr n.name, avInt .i64 n.int, avInt .u64 n.bits, na, nb, nc]) hx rfl (by simp [pa, pb, pc])
    obtain ⟨q, q1, q2⟩ := (kb.vw y1).ats (k := .i64) (ys := [avInt .i64 n.kind, avInt .i64 n.pos, avStr n.name, avInt .i64 n.int, avInt .u64 n.bits, ma, mb, mc]) hy rfl (by simp [qa, qb, qc])
    have np : ¬ Hb.l.length ∈ ridOf p := fun hm => Nat.lt_irrefl _ (rid_lt p2 _ hm)
    have nq : ¬ Hb.l.length ∈ ridOf q := fun hm => Nat.lt_irrefl _ (rid_lt q2 _ hm)
    simp only [ridOf] at np nq
    have nb0 : ¬ Hb.l.length = H.l.length := by omega
    obtain ⟨cz, hcz⟩ : ∃ cz, cz = AObj.cells [.lit (.int .i64 0), .lit (.int .i64 0), .lit (.string (mkS [])), .lit (.int .i64 0), .lit (.int .u64 0), .lit (.slice none 0 0), .lit (.slice none 0 0), .lit (.slice none 0 0)] (t_api_Node N) := ⟨_, rfl⟩
    obtain ⟨cm, hcm⟩ : ∃ cm, cm = AObj.cells [avInt .i64 n.kind, avInt .i64 n.pos, avStr n.name, avInt .i64 n.int, avInt .u64 n.bits, na, nb, nc] (t_api_Node N) := ⟨_, rfl⟩
    obtain ⟨cn, hcn⟩ : ∃ cn, cn = AObj.cells [avInt .i64 n.kind, avInt .i64 n.pos, avStr n.name, avInt .i64 n.int, avInt .u64 n.bits, ma, mb, mc] (t_api_Node N) := ⟨_, rfl⟩
    obtain ⟨H3, hH3⟩ : ∃ H3, H3 = hset (hset (halloc (halloc Hb cz) cz) Hb.l.length (some cm)) (Hb.l.length + 1) (some cn) := ⟨_, rfl⟩
    have hM0 : Mut { l := H.l, d := none } Hb [] := by rw [hHb]; exact (Mut.refl _ _).alloc _
    have hM3 : Mut { l := H.l, d := none } H3 [] := by
      rw [hH3]
      exact (((hM0.alloc _).alloc _).set (.inr (by simp only [hlb]; omega))).set (.inr (by simp only [hlb]; omega))
    have k3 : Keep H H3 := fun id hid => hM3.get hid (by simp)
    have f1 : hget H3 H.l.length = some (.cells [a1, b1, c1, a2, b2, c2] (t_tree_two N)) := by
      rw [hH3, hget_hset, if_neg (by omega), hget_hset, if_neg (by omega), hget_halloc, if_neg (by simp; omega), hget_halloc, if_neg (by omega)]
      exact hbox
    have f2 : hget H3 Hb.l.length = some cm := by
      rw [hH3, hget_hset, if_neg (by omega), hget_hset, if_pos rfl]
      simp
    have f3 : hget H3 (Hb.l.length + 1) = some cn := by
      rw [hH3, hget_hset, if_pos rfl]
      simp
    have hfin := settle_keeps (H := H) (H' := H3) (v := avBool true) (hM3.keeps rfl) (by rfl)
    have ee := sliceEq_call h.equal (k3.vw va) (k3.vw wa) (by have := okn.2.2.1; omega)
    have ln := VI.len vb
    have lm := VI.len wb
    have lc := VI.len vc
    have hkl := okn.2.2.2.1
    have hkt := okn.2.2.2.2
    have hH3' := hH3.symm
    rw [hcz, hcm, hcn] at hH3'
    rw [hcm] at f2
    rw [hcn] at f3
    apply h.terms.call (by rfl)
    simp [C_tree_two_terms, o1, o2, o3, o4, u1, u2, hHb', hbox, loadC, p1, p2, q1, q2, pa, pb, pc, qa, qb, qc, np, nq, nb0, hH3', ee, f2, f3, ln, lm, lc, -halloc_d, -hset_d]
    refine wp_round (n := n.types.length) (fun m ρ H' => ∃ i : Nat, ρ 3 = .ptr H.l.length 0 ∧ ρ 7 = .ptr Hb.l.length 0 ∧ ρ 8 = .ptr (Hb.l.length + 1) 0 ∧ ρ 68 = avInt .i64 (n.types.length : Nat) ∧ ρ 69 = avInt .i64 (i : Nat) ∧ i ≤ n.types.length ∧ H' = H3 ∧ m = n.types.length - i) ⟨0, rfl, rfl, rfl, rfl, rfl, by omega, rfl, rfl⟩ ?_
    rintro m ρ H' ⟨i, r3, r7, r8, r68, r69, hi, rfl, rfl⟩
    by_cases hlt : i < n.types.length
    · have hlt' : (i : Int) < n.types.length := by omega
      obtain ⟨k0, k1⟩ := (hkN j n hn).2 n.types[i] (List.getElem_mem hlt)
      obtain ⟨kn, hkn⟩ := Int.eq_ofNat_of_zero_le k0
      obtain ⟨p', t1, t2⟩ := (k3.vw vc).at' (k := .i64) (i := (i : Int)) (e := avInt .i64 (kn : Nat)) (by omega) (by simp [hlt, hkn]) rfl rfl rfl
      obtain ⟨q', s1, s2⟩ := (k3.vw wc).at' (k := .i64) (i := (i : Int)) (e := avInt .i64 (kn : Nat)) (by omega) (by simp [hlt, hkn]) rfl rfl rfl
      have ih := two_types_call h ⟨u1, o2, u2, o4⟩ ok hk (kn + 1) kn H' (by omega) (by omega) (k3.row (fun _ _ => k3.ty) g1) (k3.row (fun _ _ => k3.ty) g2)
      have hw : IntKind.wrap .i64 ((i : Int) + 1) = ((i + 1 : Nat) : Int) := by rw [wrap64 (by omega) (by omega)]; omega
      simp [L_tree_two_terms_1, r3, r7, r8, r68, r69, hlt', f1, f2, f3, t1, t2, s1, s2, o1, o2, o3, o4, u1, u2, loadC, ih, hw, -Int.natCast_add]
      exact ⟨n.types.length - (i + 1), by omega, i + 1, rfl, by omega, rfl⟩
    · have hlt' : ¬ (i : Int) < n.types.length := by omega
      simp [L_tree_two_terms_1, K_tree_two_terms_1, r3, r7, r8, r68, r69, hlt', f2, ln, loadC]
      refine wp_round (n := n.kids.length) (fun m ρ H'' => ∃ i : Nat, ρ 3 = .ptr H.l.length 0 ∧ ρ 7 = .ptr Hb.l.length 0 ∧ ρ 8 = .ptr (Hb.l.length + 1) 0 ∧ ρ 88 = avInt .i64 (n.kids.length : Nat) ∧ ρ 89 = avInt .i64 (i : Nat) ∧ i ≤ n.kids.length ∧ H'' = H' ∧ m = n.kids.length - i) ⟨0, r3, r7, r8, rfl, rfl, by omega, rfl, rfl⟩ ?_
      rintro m2 ρ2 H'' ⟨i2, r3, r7, r8, r88, r89, hi2, rfl, rfl⟩
      by_cases hlt2 : i2 < n.kids.length
      · have hlt2' : (i2 : Int) < n.kids.length := by omega
        obtain ⟨k0, k1⟩ := (hkN j n hn).1 n.kids[i2] (List.getElem_mem hlt2)
        obtain ⟨kn, hkn⟩ := Int.eq_ofNat_of_zero_le k0
        obtain ⟨p', t1, t2⟩ := (k3.vw vb).at' (k := .i64) (i := (i2 : Int)) (e := avInt .i64 (kn : Nat)) (by omega) (by simp [hlt2, hkn]) rfl rfl rfl
        obtain ⟨q', s1, s2⟩ := (k3.vw wb).at' (k := .i64) (i := (i2 : Int)) (e := avInt .i64 (kn : Nat)) (by omega) (by simp [hlt2, hkn]) rfl rfl rfl
        have ih := two_terms_call h ⟨o2, o4⟩ ok okN hk hkN f kn H'' (by omega) (by omega) (k3.row (fun _ _ => k3.nd) h1) (k3.row (fun _ _ => k3.nd) h2) (k3.row (fun _ _ => k3.ty) g1) (k3.row (fun _ _ => k3.ty) g2)
        have hw : IntKind.wrap .i64 ((i2 : Int) + 1) = ((i2 + 1 : Nat) : Int) := by rw [wrap64 (by omega) (by omega)]; omega
        simp [L_tree_two_terms_2, r3, r7, r8, r88, r89, hlt2', f1, f2, f3, t1, t2, s1, s2, o1, o2, o3, o4, u1, u2, loadC, ih, hw, -Int.natCast_add]
        exact ⟨n.kids.length - (i2 + 1), by omega, i2 + 1, rfl, by omega, rfl⟩
      · have hlt2' : ¬ (i2 : Int) < n.kids.length := by omega
        simp [L_tree_two_terms_2, K_tree_two_terms_2, r3, r7, r8, r88, r89, hlt2', hfin]
end
end Go.Proofs.Eng
/- A tree that may be is walked whole: as many terms as it has. -/
set_option linter.unusedVariables false
set_option linter.unusedSimpArgs false
namespace Go.Proofs.Eng
open Go
end Go.Proofs.Eng
/- tree.Same of two trees of the same content: run by the engine. -/
set_option linter.unusedVariables false
set_option linter.unusedSimpArgs false
set_option maxRecDepth 100000
namespace Go.Proofs.Eng
open Go
theorem alsS_true {ty : Nat} : ∀ {l : List Al} {cy r : List Int}, alsS ty l cy = some r → ∀ n ∈ l, 0 ≤ n.type ∧ n.type < (ty : Int)
  | [], cy, r, h => by simp
  | a :: l, cy, r, h => by
    unfold alsS at h
    split at h
    · split at h
      · rename_i cy' e
        have := noteS_true e a.type (by simp)
        intro n hn
        rcases List.mem_cons.1 hn with rfl | hn
        · exact this
        · exact alsS_true h n hn
      · cases h
    · cases h
theorem endS_als {t : Tr} {ct cy : List Int} (h : endS t ct cy = true) : ∀ n ∈ t.als, 0 ≤ n.type ∧ n.type < (t.types.length : Int) := by
  unfold endS at h
  split at h
  · split at h
    · rename_i e; exact alsS_true e
    · cases h
  · cases h
section
variable {Γ : Sums} {A : Tab} {N : Nat → Nat}
theorem same_call (hc : TreeC Γ A N) (h2 : TwoC Γ A N) (h : Has Γ A (f_tree_Same N) (C_tree_Same N)) {H : Hp} {x y : AV} {t : Tr} (hx : TrR H x t) (hy : TrR H y t) (ok : t.ok) (hb : t.nodes.length < 2 ^ 30 ∧ t.types.length < 2 ^ 30 ∧ t.als.length < 2 ^ 30) (hck : checkB t = true) : (lim Γ A).call (f_tree_Same N) [x, y] H = some (avBool true, none) := by
  obtain ⟨a1, b1, c1, rfl, ra1, rb1, rc1⟩ := id hx
  obtain ⟨a2, b2, c2, rfl, ra2, rb2, rc2⟩ := id hy
  obtain ⟨hne, _, _, ct, cy, hn1, hn2⟩ := checkB_parts hck
  have hkN : ∀ (j : Nat) (n : Nd), t.nodes[j]? = some n → (∀ k ∈ n.kids, 0 ≤ k ∧ k < (j : Int)) ∧ ∀ k ∈ n.types, 0 ≤ k ∧ k < (t.types.length : Int) := fun j n hj => by
    have := nodesS_true hn1 j n hj
    exact ⟨by simpa using this.1, this.2.1⟩
  obtain ⟨_, hty⟩ := endS_types hn2
  have hkY : KidsY t.types := fun j n hj => by have := (typesS_true hty j n hj).1; simpa using this
  have hal := endS_als hn2
  have o1 := ra1.one
  have o2 := rb1.one
  have o3 := rc1.one
  have o4 := ra2.one
  have o5 := rb2.one
  have o6 := rc2.one
  have la1 := ra1.len
  have la2 := ra2.len
  have lc1 := rc1.len
  have lc2 := rc2.len
  obtain ⟨H2, hH2⟩ : ∃ H2, H2 = halloc (halloc { l := H.l, d := none } (.cells [a1, b1, c1] (t_api_Tree N))) (.cells [a2, b2, c2] (t_api_Tree N)) := ⟨_, rfl⟩
  have hM2 : Mut { l := H.l, d := none } H2 [] := by rw [hH2]; exact ((Mut.refl _ _).alloc _).alloc _
  have k2 : Keep H H2 := fun id hid => hM2.get hid (by simp)
  have hl2 : H2.l.length = H.l.length + 2 := by rw [hH2]; simp
  have f1 : hget H2 H.l.length = some (.cells [a1, b1, c1] (t_api_Tree N)) := by rw [hH2]; simp
  have f2 : hget H2 (H.l.length + 1) = some (.cells [a2, b2, c2] (t_api_Tree N)) := by rw [hH2]; simp
  have e1 := check_call hc (k2.tr hx) ok hb
  have e2 := check_call hc (k2.tr hy) ok hb
  rw [hck] at e1 e2
  have e1' : (lim Γ A).call (f_tree_Check N) [.agg [a1, b1, c1]] H2 = some (avInt .i64 0, none) := e1
  have e2' : (lim Γ A).call (f_tree_Check N) [.agg [a2, b2, c2]] H2 = some (avInt .i64 0, none) := e2
  have hH2' := hH2.symm
  obtain ⟨H3, hH3⟩ : ∃ H3, H3 = hset (halloc H2 (.cells [.lit (.slice none 0 0), .lit (.slice none 0 0), .lit (.slice none 0 0), .lit (.slice none 0 0), .lit (.slice none 0 0), .lit (.slice none 0 0)] (t_tree_two N))) H2.l.length (some (.cells [a1, b1, c1, a2, b2, c2] (t_tree_two N))) := ⟨_, rfl⟩
  have hM3 : Mut { l := H.l, d := none } H3 [] := by rw [hH3]; exact (hM2.alloc _).set (.inr (by simp only [hl2]; omega))
  have k3 : Keep H H3 := fun id hid => hM3.get hid (by simp)
  have g1 : hget H3 H.l.length = some (.cells [a1, b1, c1] (t_api_Tree N)) := by rw [hH3, hget_hset, if_neg (by omega), hget_halloc, if_neg (by omega)]; exact f1
  have g2 : hget H3 (H.l.length + 1) = some (.cells [a2, b2, c2] (t_api_Tree N)) := by rw [hH3, hget_hset, if_neg (by omega), hget_halloc, if_neg (by omega)]; exact f2
  have g3 : hget H3 H2.l.length = some (.cells [a1, b1, c1, a2, b2, c2] (t_tree_two N)) := by rw [hH3, hget_hset, if_pos rfl]; simp
  have hH3' := hH3.symm
  have hfin := settle_keeps (H := H) (H' := H3) (v := avBool true) (hM3.keeps rfl) (by rfl)
  obtain ⟨xs, x1, x2, x3⟩ := id (k3.row (fun _ _ h => h) rc1)
  obtain ⟨ys, y1, y2, y3⟩ := id (k3.row (fun _ _ h => h) rc2)
  have h0 : 0 < t.nodes.length := List.length_pos_iff.2 hne
  have et := two_terms_call h2 ⟨o3, o6⟩ ok.2.1 ok.1 hkY hkN t.nodes.length (t.nodes.length - 1) H3 (by omega) (by omega) (k3.row (fun _ _ => k3.nd) ra1) (k3.row (fun _ _ => k3.nd) ra2) (k3.row (fun _ _ => k3.ty) rb1) (k3.row (fun _ _ => k3.ty) rb2)
  have hwn : IntKind.wrap .i64 ((t.nodes.length : Int) - 1) = ((t.nodes.length - 1 : Nat) : Int) := by rw [wrap64 (by omega) (by omega)]; omega
  apply h.call (by rfl)
  simp [C_tree_Same, o1, o2, o3, o4, o5, o6, hH2', f1, f2, e1', e2', lc1, lc2, hH3', g1, g2, loadC, -halloc_d, -hset_d]
  refine wp_round (n := t.als.length) (fun m ρ H' => ∃ i : Nat, ρ 2 = .ptr H.l.length 0 ∧ ρ 3 = .ptr (H.l.length + 1) 0 ∧ ρ 5 = .ptr H2.l.length 0 ∧ ρ 29 = avInt .i64 (t.als.length : Nat) ∧ ρ 30 = avInt .i64 (i : Nat) ∧ i ≤ t.als.length ∧ H' = H3 ∧ m = t.als.length - i) ⟨0, rfl, rfl, rfl, rfl, rfl, by omega, rfl, rfl⟩ ?_
  rintro m ρ H' ⟨i, r2, r3, r5, r29, r30, hi, rfl, rfl⟩
  by_cases hlt : i < t.als.length
  · have hlt' : (i : Int) < t.als.length := by omega
    obtain ⟨al, hal1⟩ : ∃ al, t.als[i]? = some al := ⟨_, List.getElem?_eq_getElem hlt⟩
    obtain ⟨k0, k1⟩ := hal al (List.mem_of_getElem? hal1)
    obtain ⟨kn, hkn⟩ := Int.eq_ofNat_of_zero_le k0
    have p1 : xs[i]? = some (.agg [avStr al.name, avInt .i64 (kn : Nat), avInt .i64 al.pos]) := by
      rw [List.getElem?_eq_getElem (by omega)]; have := x3 i xs[i] al (List.getElem?_eq_getElem (by omega)) hal1; unfold AlR alV at this; rw [this, hkn]
    have p2 : ys[i]? = some (.agg [avStr al.name, avInt .i64 (kn : Nat), avInt .i64 al.pos]) := by
      rw [List.getElem?_eq_getElem (by omega)]; have := y3 i ys[i] al (List.getElem?_eq_getElem (by omega)) hal1; unfold AlR alV at this; rw [this, hkn]
    obtain ⟨u1, v1, s1, s2, s3⟩ := x1.atf (k := .i64) (off := 0) p1 rfl rfl rfl
    obtain ⟨u2, v2, s4, s5, s6⟩ := x1.atf (k := .i64) (off := 1) p1 rfl rfl rfl
    obtain ⟨u3, v3, s7, s8, s9⟩ := y1.atf (k := .i64) (off := 0) p2 rfl rfl rfl
    obtain ⟨u4, v4, s10, s11, s12⟩ := y1.atf (k := .i64) (off := 1) p2 rfl rfl rfl
    have hu : u1 = u2 := by rw [s1] at s4; exact Option.some.inj s4
    have hu' : u3 = u4 := by rw [s7] at s10; exact Option.some.inj s10
    subst hu
    subst hu'
    have ih := two_types_call h2 ⟨o1, o3, o4, o6⟩ ok.2.1 hkY (kn + 1) kn H' (by omega) (by omega) (k3.row (fun _ _ => k3.ty) rb1) (k3.row (fun _ _ => k3.ty) rb2)
    have hw : IntKind.wrap .i64 ((i : Int) + 1) = ((i + 1 : Nat) : Int) := by rw [wrap64 (by omega) (by omega)]; omega
    simp [L_tree_Same_1, r2, r3, r5, r29, r30, hlt', g1, g2, g3, s1, s2, s3, s5, s6, s7, s8, s9, s11, s12, o1, o2, o3, o4, o5, o6, loadC, ih, hw, -Int.natCast_add]
    exact ⟨t.als.length - (i + 1), by omega, i + 1, rfl, by omega, rfl⟩
  · have hlt' : ¬ (i : Int) < t.als.length := by omega
    simp [L_tree_Same_1, K_tree_Same_1, r2, r3, r5, r29, r30, hlt', g1, g2, g3, la1, la2, o1, o2, o3, o4, o5, o6, loadC, hwn, et, hfin]
end
end Go.Proofs.Eng
/- The tree's builder: what is built. -/
set_option linter.unusedVariables false
set_option linter.unusedSimpArgs false
set_option maxRecDepth 100000
namespace Go.Proofs.Eng
open Go
@[simp ↓] theorem wpA_bslice1 {E : Env} {ρ : Rho} {H : Hp} {Q : AV → Hp → Prop} {e : TypeId} {sz len : Nat} {lay : Option Nat} {z : List AV} {ps : List (Nat × Nat × Opd)} : wpA E 1 (.bslice e sz lay len z ps) ρ H Q =
    bindO (fillA (repl len z) (ps.map fun (o, s, x) => (o, s, evR ρ x))) fun cs => andQ ((chunk sz lay len cs).all (fun y => y.good && y.cells.length == sz && (lay.isSome || y.one)) = true) (Q (.ra sz H.l.length 0 len) (halloc H (.arr sz (chunk sz lay len cs) e))) := by
  rw [wpA_one_zero, wpA_bslice]
  have hd : ∀ d, aopER E ρ { l := H.l, d := d } (.bslice e sz lay len z ps) = ((fillA (repl len z) (ps.map fun (o, s, x) => (o, s, evR ρ x))).bind fun cs =>
      if (chunk sz lay len cs).all (fun y => y.good && y.cells.length == sz && (lay.isSome || y.one)) then some (AV.ra sz H.l.length 0 len, some (halloc { l := H.l, d := d } (.arr sz (chunk sz lay len cs) e))) else none) := fun d => _root_.id rfl
  simp only [hd]
  cases fillA (repl len z) (ps.map fun (o, s, x) => (o, s, evR ρ x)) with
  | none => exact .inl fun d => _root_.id rfl
  | some cs =>
    by_cases hc : ((chunk sz lay len cs).all (fun y => y.good && y.cells.length == sz && (lay.isSome || y.one))) = true
    · exact .inr ⟨_, _, fun d => if_pos hc⟩
    · exact .inl fun d => if_neg hc

section
variable {Γ : Sums} {A : Tab} {N : Nat → Nat}

/-- A row, laid in a heap, nil or all of an object. -/
def RowAt (H : Hp) (e : TypeId) (sz : Nat) (x : AV) (es : List AV) : Prop := (x = avNilS ∧ es = []) ∨ ∃ id, x = .ra sz id 0 es.length ∧ hget H id = some (.arr sz es e)
theorem RowAt.len {H : Hp} {e : TypeId} {sz : Nat} {x : AV} {es : List AV} (h : RowAt H e sz x es) : asLen x = some es.length := by
  rcases h with ⟨rfl, rfl⟩ | ⟨id, rfl, _⟩ <;> rfl
theorem RowAt.keep {H H' : Hp} {e : TypeId} {sz : Nat} {x : AV} {es : List AV} (h : RowAt H e sz x es) (k : ∀ id o, hget H id = some o → (kid x = some id) → hget H' id = some o) : RowAt H' e sz x es := by
  rcases h with h | ⟨id, rfl, h⟩
  · exact .inl h
  · exact .inr ⟨id, rfl, k id _ h rfl⟩
theorem RowAt.alloc {H : Hp} {e : TypeId} {sz : Nat} {x : AV} {es : List AV} (h : RowAt H e sz x es) (o : AObj) : RowAt (halloc H o) e sz x es :=
  h.keep fun id o' h' _ => by rw [hget_halloc, if_neg (Nat.ne_of_lt (hget_lt h'))]; exact h'
/-- A row more. -/
theorem RowAt.app {H : Hp} {e : TypeId} {sz bytes : Nat} {x : AV} {es ys : List AV} (h : RowAt H e sz x es) (hy : ys ≠ []) (hb : (es.length + ys.length) * bytes ≤ roomMax) (hg : ys.all (fun y => y.good && y.cells.length == sz) = true) :
    ∃ v H', appendOn H e sz bytes x ys = some (v, some H') ∧ v = .ra sz H.l.length 0 (es ++ ys).length ∧ hget H' H.l.length = some (.arr sz (es ++ ys) e) ∧ H'.l.length = H.l.length + 1 ∧ (∀ id o, hget H id = some o → kid x ≠ some id → hget H' id = some o) ∧ (∀ (H0 : Hp) (W : List Nat), Mut H0 H W → (∀ j, kid x = some j → H0.l.length ≤ j) → Mut H0 H' W) := by
  rcases h with ⟨rfl, rfl⟩ | ⟨id, rfl, h⟩
  · have : ys.isEmpty = false := by cases ys with | nil => exact absurd rfl hy | cons => rfl
    refine ⟨_, _, by simp only [appendOn]; rw [if_pos ⟨by simpa using hb, hg⟩, this]; rfl, by simp, by simp, by simp, fun id o ho _ => ?_, fun H0 W hm _ => hm.alloc _⟩
    rw [hget_halloc, if_neg (Nat.ne_of_lt (hget_lt ho))]; exact ho
  · refine ⟨_, _, appendOn_ra h hb hg, by simp, by simp, by simp, fun id' o ho hne => ?_, fun H0 W hm hj => (hm.set (.inr (hj id rfl))).alloc _⟩
    have hne' : id' ≠ id := fun e => hne (by rw [e]; rfl)
    rw [hget_halloc, if_neg (by simpa using Nat.ne_of_lt (hget_lt ho)), hget_hset, if_neg hne']; exact ho

theorem cloneA_nil (h : Has Γ A (f_slices_Clone_sl_api_Alias_api_Alias N) (C_slices_Clone_sl_api_Alias_api_Alias N)) (H : Hp) : (lim Γ A).call (f_slices_Clone_sl_api_Alias_api_Alias N) [.lit (.slice none 0 0)] H = some (.lit (.slice none 0 0), none) := by
  apply h.call (by rfl)
  simp [C_slices_Clone_sl_api_Alias_api_Alias, aeq_nilS]

structure TreeB (Γ : Sums) (A : Tab) (N : Nat → Nat) : Prop where
  cs : Has Γ A (f_slices_Clone_sl_string_string N) (C_slices_Clone_sl_string_string N)
  ci : Has Γ A (f_slices_Clone_sl_int_int N) (C_slices_Clone_sl_int_int N)
  ca : Has Γ A (f_slices_Clone_sl_api_Alias_api_Alias N) (C_slices_Clone_sl_api_Alias_api_Alias N)
  ct : Has Γ A (f_tree_cloneTerm N) (C_tree_cloneTerm N)
  cy : Has Γ A (f_tree_cloneType N) (C_tree_cloneType N)
  term : Has Γ A (f_p_tree_Builder_Term N) (C_p_tree_Builder_Term N)
  type : Has Γ A (f_p_tree_Builder_Type N) (C_p_tree_Builder_Type N)
  new : Has Γ A (f_tree_New N) (C_tree_New N)
  clone : Has Γ A (f_tree_Clone N) (C_tree_Clone N)
  tree : Has Γ A (f_p_tree_Builder_Tree N) (C_p_tree_Builder_Tree N)

end
end Go.Proofs.Eng
/- Terms and types, copied: run by the engine. -/
set_option linter.unusedVariables false
set_option linter.unusedSimpArgs false
set_option maxRecDepth 100000
namespace Go.Proofs.Eng
open Go
section
variable {Γ : Sums} {A : Tab} {N : Nat → Nat}
theorem cloneS_call (h : Has Γ A (f_slices_Clone_sl_string_string N) (C_slices_Clone_sl_string_string N)) {x : AV} {b : List (List UInt8)} {H : Hp} (hx : VS H x b) (hl : b.length < 2 ^ 36) :
    ∃ c g os, (lim Γ A).call (f_slices_Clone_sl_string_string N) [x] H = some (c, g) ∧ Fresh H g c (b.map avStr) (t_string N) os ∧ (x = avNilS → c = avNilS) := by
  have key : ∃ r, (lim Γ A).call (f_slices_Clone_sl_string_string N) [x] H = some r ∧ ∃ os, Fresh H r.2 r.1 (b.map avStr) (t_string N) os ∧ (x = avNilS → r.1 = avNilS) := by
    obtain ⟨R, hR⟩ : ∃ R : AV × Option Hp → Prop, R = fun r => ∃ os, Fresh H r.2 r.1 (b.map avStr) (t_string N) os ∧ (x = avNilS → r.1 = avNilS) := ⟨_, rfl⟩
    suffices ∃ r, (lim Γ A).call (f_slices_Clone_sl_string_string N) [x] H = some r ∧ R r by simpa [hR] using this
    have live : aeq .pslice x (.lit (.slice none 0 0)) = some false → x ≠ avNilS → ∃ r, (lim Γ A).call (f_slices_Clone_sl_string_string N) [x] H = some r ∧ R r := by
      intro he hne
      apply h.callP (by rfl)
      have hE := (hx.dd none).keep (H' := halloc { l := H.l, d := none } (.arr 1 [] (t_string N))) (fun id hid => by simp [hget_halloc, Nat.ne_of_lt hid])
      have hE' := hE.elems
      have ha : appendOn (halloc { l := H.l, d := none } (.arr 1 [] (t_string N))) (t_string N) 1 16 (.ra 1 H.l.length 0 0) (b.map avStr) = some (.ra 1 (H.l.length + 1) 0 b.length, some (halloc (hset (halloc { l := H.l, d := none } (.arr 1 [] (t_string N))) H.l.length none) (.arr 1 (b.map avStr) (t_string N)))) := by
        have hr : b.length * 16 ≤ roomMax := by unfold roomMax; omega
        have hq := appendOn_ra (H := halloc { l := H.l, d := none } (.arr 1 [] (t_string N))) (e := t_string N) (sz := 1) (bytes := 16) (id := H.l.length) (es := []) (ys := b.map avStr) (by simp) (by simpa using hr) (by simp)
        simpa using hq
      have hm : Mut { l := H.l, d := none } (halloc (hset (halloc { l := H.l, d := none } (.arr 1 [] (t_string N))) H.l.length none) (.arr 1 (b.map avStr) (t_string N))) [] := (((Mut.refl _ []).alloc _).set (.inr (Nat.le_refl _))).alloc _
      have hs := settle_some (H := H) (H' := halloc (hset (halloc { l := H.l, d := none } (.arr 1 [] (t_string N))) H.l.length none) (.arr 1 (b.map avStr) (t_string N))) (v := .ra 1 (H.l.length + 1) 0 b.length) (by simp [AV.under])
      simp [C_slices_Clone_sl_string_string, fillA, repl, setFrom, chunk, he, hE', ha, -halloc_d, -hset_d]
      rw [hs, hR]
      refine ⟨[(H.l.length + 1, .arr 1 (b.map avStr) (t_string N))], ⟨.inr ⟨_, by simp, rfl⟩, hm.settled, ?_⟩, fun e => absurd e hne⟩
      simp only [List.mem_singleton, forall_eq, Option.getD_some]
      refine ⟨?_, by omega⟩
      rw [hget_l]
      simp
    rcases hx with (⟨rfl, hb⟩ | rfl) | ⟨id, off, e, all, rfl, h1⟩
    · apply h.callP (by rfl)
      simp [C_slices_Clone_sl_string_string, aeq_nilS]
      rw [hR]
      refine ⟨[], ⟨?_, Mut.refl _ _, by simp⟩, fun _ => rfl⟩
      exact .inl ⟨rfl, hb, rfl⟩
    · exact live aeq_sl (by simp)
    · exact live aeq_ra (by simp)
  obtain ⟨⟨c, g⟩, e, os, h1, h2⟩ := key
  exact ⟨c, g, os, e, h1, h2⟩

theorem cloneI_call (h : Has Γ A (f_slices_Clone_sl_int_int N) (C_slices_Clone_sl_int_int N)) {x : AV} {b : List Int} {H : Hp} (hx : VI H x b) (hl : b.length < 2 ^ 36) :
    ∃ c g os, (lim Γ A).call (f_slices_Clone_sl_int_int N) [x] H = some (c, g) ∧ Fresh H g c (b.map (avInt .i64)) (t_int N) os ∧ (x = avNilS → c = avNilS) := by
  have key : ∃ r, (lim Γ A).call (f_slices_Clone_sl_int_int N) [x] H = some r ∧ ∃ os, Fresh H r.2 r.1 (b.map (avInt .i64)) (t_int N) os ∧ (x = avNilS → r.1 = avNilS) := by
    obtain ⟨R, hR⟩ : ∃ R : AV × Option Hp → Prop, R = fun r => ∃ os, Fresh H r.2 r.1 (b.map (avInt .i64)) (t_int N) os ∧ (x = avNilS → r.1 = avNilS) := ⟨_, rfl⟩
    suffices ∃ r, (lim Γ A).call (f_slices_Clone_sl_int_int N) [x] H = some r ∧ R r by simpa [hR] using this
    have live : aeq .pslice x (.lit (.slice none 0 0)) = some false → x ≠ avNilS → ∃ r, (lim Γ A).call (f_slices_Clone_sl_int_int N) [x] H = some r ∧ R r := by
      intro he hne
      apply h.callP (by rfl)
      have hE := (hx.dd none).keep (H' := halloc { l := H.l, d := none } (.arr 1 [] (t_int N))) (fun id hid => by simp [hget_halloc, Nat.ne_of_lt hid])
      have hE' := hE.elems
      have ha : appendOn (halloc { l := H.l, d := none } (.arr 1 [] (t_int N))) (t_int N) 1 8 (.ra 1 H.l.length 0 0) (b.map (avInt .i64)) = some (.ra 1 (H.l.length + 1) 0 b.length, some (halloc (hset (halloc { l := H.l, d := none } (.arr 1 [] (t_int N))) H.l.length none) (.arr 1 (b.map (avInt .i64)) (t_int N)))) := by
        have hr : b.length * 8 ≤ roomMax := by unfold roomMax; omega
        have hq := appendOn_ra (H := halloc { l := H.l, d := none } (.arr 1 [] (t_int N))) (e := t_int N) (sz := 1) (bytes := 8) (id := H.l.length) (es := []) (ys := b.map (avInt .i64)) (by simp) (by simpa using hr) (by simp)
        simpa using hq
      have hm : Mut { l := H.l, d := none } (halloc (hset (halloc { l := H.l, d := none } (.arr 1 [] (t_int N))) H.l.length none) (.arr 1 (b.map (avInt .i64)) (t_int N))) [] := (((Mut.refl _ []).alloc _).set (.inr (Nat.le_refl _))).alloc _
      have hs := settle_some (H := H) (H' := halloc (hset (halloc { l := H.l, d := none } (.arr 1 [] (t_int N))) H.l.length none) (.arr 1 (b.map (avInt .i64)) (t_int N))) (v := .ra 1 (H.l.length + 1) 0 b.length) (by simp [AV.under])
      simp [C_slices_Clone_sl_int_int, fillA, repl, setFrom, chunk, he, hE', ha, -halloc_d, -hset_d]
      rw [hs, hR]
      refine ⟨[(H.l.length + 1, .arr 1 (b.map (avInt .i64)) (t_int N))], ⟨.inr ⟨_, by simp, rfl⟩, hm.settled, ?_⟩, fun e => absurd e hne⟩
      simp only [List.mem_singleton, forall_eq, Option.getD_some]
      refine ⟨?_, by omega⟩
      rw [hget_l]
      simp
    rcases hx with (⟨rfl, hb⟩ | rfl) | ⟨id, off, e, all, rfl, h1⟩
    · apply h.callP (by rfl)
      simp [C_slices_Clone_sl_int_int, aeq_nilS]
      rw [hR]
      refine ⟨[], ⟨?_, Mut.refl _ _, by simp⟩, fun _ => rfl⟩
      exact .inl ⟨rfl, hb, rfl⟩
    · exact live aeq_sl (by simp)
    · exact live aeq_ra (by simp)
  obtain ⟨⟨c, g⟩, e, os, h1, h2⟩ := key
  exact ⟨c, g, os, e, h1, h2⟩

theorem Fresh.vw {H : Hp} {g : Option Hp} {c : AV} {es : List AV} {e : TypeId} {os : List (Nat × AObj)} (h : Fresh H g c es e os) : Vw (g.getD H) 1 c es := by
  rcases h.row with ⟨rfl, r2, rfl⟩ | ⟨id, rfl, rfl⟩
  · exact .inl (.inl ⟨rfl, r2⟩)
  · exact .inr ⟨id, 0, e, es, rfl, (h.has _ (List.mem_singleton.2 rfl)).1, by omega, List.take_of_length_le (by simp)⟩
end
end Go.Proofs.Eng
/- A term, copied: run by the engine. -/
set_option linter.unusedVariables false
set_option linter.unusedSimpArgs false
set_option maxRecDepth 100000
namespace Go.Proofs.Eng
open Go
def nxt (H : Hp) : Option Hp → Hp
  | none => H
  | some H' => { l := H'.l, d := dminO H.d H'.d }
theorem bindH1_nxt {v : AV} {g : Option Hp} {H : Hp} {Q : AV → Hp → Prop} {m : Mk Q} {m' : Mk H} (hk : ∀ H', g = some H' → keeps H H' = true) : bindH1 (some (v, g)) H Q m m' = Q v (nxt H g) := by
  apply propext
  cases g with
  | none => rw [bindH1_none]; rfl
  | some H' =>
    constructor
    · rintro ⟨u, h, e, k⟩
      simp only [Option.some.injEq, Prod.mk.injEq] at e
      obtain ⟨rfl, rfl⟩ := e
      exact k.2
    · intro k
      exact ⟨v, some H', rfl, hk H' rfl, k⟩
theorem nxt_mut {H : Hp} {g : Option Hp} (h : Mut { l := H.l, d := none } (g.getD { l := H.l, d := none }) []) : Mut H (nxt H g) [] := by
  cases g with
  | none => exact Mut.refl _ _
  | some H' => exact Mut.settled h
theorem nxt_l {H : Hp} {g : Option Hp} : (nxt H g).l = (g.getD { l := H.l, d := none }).l := by cases g <;> rfl
theorem nxt_keeps {H : Hp} {g : Option Hp} (h : Mut { l := H.l, d := none } (g.getD { l := H.l, d := none }) []) : ∀ H', g = some H' → keeps H H' = true := by
  rintro H' rfl
  exact Mut.keeps (H := { l := H.l, d := none }) h rfl
theorem Vw.of_l {H H' : Hp} {sz : Nat} {x : AV} {es : List AV} (h : Vw H sz x es) (e : H.l = H'.l) : Vw H' sz x es := h.keep fun id _ => by unfold hget; rw [e]
theorem settle_row {H H' : Hp} {x v : AV} {es : List AV} {g : Option Hp} (hm : Mut { l := H.l, d := none } H' []) (e : settle H v H' = (v, g)) (hx : Vw H' 1 x es) (hu : g = none → x.under H.l.length = true) : Vw (g.getD H) 1 x es := by
  unfold settle at e
  split at e
  · simp only [Prod.mk.injEq, true_and] at e
    subst e
    have := hu rfl
    rcases hx with hx | ⟨id, off, t, all, rfl, h1, h2⟩
    · exact .inl hx
    · refine .inr ⟨id, off, t, all, rfl, ?_, h2⟩
      have hid : id < H.l.length := by simpa [AV.under] using this
      rw [← h1]
      exact (hm.get (i := id) hid (by simp)).symm
  · simp only [Prod.mk.injEq, true_and] at e
    subst e
    exact hx.keep fun id _ => rfl
theorem settle_mut0 {H H' : Hp} {v : AV} {g : Option Hp} (hm : Mut { l := H.l, d := none } H' []) (e : settle H v H' = (v, g)) : Mut H (g.getD H) [] := by
  unfold settle at e
  split at e
  · simp only [Prod.mk.injEq, true_and] at e
    subst e
    exact Mut.refl _ _
  · simp only [Prod.mk.injEq, true_and] at e
    subst e
    exact Mut.settled hm
theorem settle_under {H H' : Hp} {v y : AV} {g : Option Hp} (e : settle H v H' = (y, g)) : y = v ∧ (g = none → v.under H.l.length = true) := by
  unfold settle at e
  split at e
  · rename_i h
    simp only [Prod.mk.injEq] at e
    rw [Bool.and_eq_true] at h
    exact ⟨e.1.symm, fun _ => h.2⟩
  · simp only [Prod.mk.injEq] at e
    refine ⟨e.1.symm, fun h => ?_⟩
    rw [← e.2] at h
    cases h
theorem Vw.setC {H : Hp} {sz p : Nat} {x : AV} {es cs : List AV} {t : TypeId} {o : Option AObj} (h : Vw H sz x es) (hp : hget H p = some (.cells cs t)) : Vw (hset H p o) sz x es := by
  rcases h with h | ⟨id, off, e, all, h0, h1, h2⟩
  · exact .inl h
  · refine .inr ⟨id, off, e, all, h0, ?_, h2⟩
    rw [hget_hset, if_neg]
    · exact h1
    · rintro rfl
      rw [h1] at hp
      cases hp
section
variable {Γ : Sums} {A : Tab} {N : Nat → Nat}
theorem cloneTerm_call (h : TreeB Γ A N) {H : Hp} {x : AV} {n : Nd} (hx : NdR H x n) (ok : n.ok) : ∃ y g, (lim Γ A).call (f_tree_cloneTerm N) [x] H = some (y, g) ∧ NdR (g.getD H) y n ∧ Mut H (g.getD H) [] := by
  obtain ⟨a, b, c, rfl, ha, hb, hc⟩ := hx
  obtain ⟨o1, o2, o3, o4, o5⟩ := ok
  obtain ⟨R, hR⟩ : ∃ R : AV × Option Hp → Prop, R = fun r => NdR (r.2.getD H) r.1 n ∧ Mut H (r.2.getD H) [] := ⟨_, rfl⟩
  suffices ∃ r, (lim Γ A).call (f_tree_cloneTerm N) [ndV n a b c] H = some r ∧ R r by
    obtain ⟨⟨y, g⟩, e, hr⟩ := this
    rw [hR] at hr
    exact ⟨y, g, e, hr⟩
  have pa := ha.one
  have pb := hb.one
  have pc := hc.one
  obtain ⟨Hb, hHb⟩ : ∃ Hb, Hb = halloc (halloc { l := H.l, d := none } (.cells [avInt .i64 n.kind, avInt .i64 n.pos, avStr n.name, avInt .i64 n.int, avInt .u64 n.bits, a, b, c] (t_api_Node N))) (.cells [.lit (.int .i64 0), .lit (.int .i64 0), .lit (.string (mkS [])), .lit (.int .i64 0), .lit (.int .u64 0), .lit (.slice none 0 0), .lit (.slice none 0 0), .lit (.slice none 0 0)] (t_api_Node N)) := ⟨_, rfl⟩
  have hMb : Mut { l := H.l, d := none } Hb [] := by rw [hHb]; exact ((Mut.refl _ _).alloc _).alloc _
  have kb : Keep H Hb := fun id hid => hMb.get hid (by simp)
  have hlb : Hb.l.length = H.l.length + 2 := by rw [hHb]; simp
  have f1 : hget Hb H.l.length = some (.cells [avInt .i64 n.kind, avInt .i64 n.pos, avStr n.name, avInt .i64 n.int, avInt .u64 n.bits, a, b, c] (t_api_Node N)) := by rw [hHb]; simp
  have f2 : hget Hb (H.l.length + 1) = some (.cells [.lit (.int .i64 0), .lit (.int .i64 0), .lit (.string (mkS [])), .lit (.int .i64 0), .lit (.int .u64 0), .lit (.slice none 0 0), .lit (.slice none 0 0), .lit (.slice none 0 0)] (t_api_Node N)) := by rw [hHb]; simp
  have hHb' := hHb.symm
  obtain ⟨c1, g1, os1, e1, F1, _⟩ := cloneS_call h.cs (H := { l := Hb.l, d := none }) ((kb.vw ha).of_l rfl) (by omega)
  have hM1 := nxt_mut (H := Hb) F1.wr
  obtain ⟨N1, hN1⟩ : ∃ N1, N1 = nxt Hb g1 := ⟨_, rfl⟩
  rw [← hN1] at hM1
  have k1 : Keep Hb N1 := hM1.kp
  obtain ⟨c2, g2, os2, e2, F2, _⟩ := cloneI_call h.ci (H := { l := N1.l, d := none }) ((k1.vw (kb.vw hb)).of_l rfl) (by omega)
  have hM2 := nxt_mut (H := N1) F2.wr
  obtain ⟨N2, hN2⟩ : ∃ N2, N2 = nxt N1 g2 := ⟨_, rfl⟩
  rw [← hN2] at hM2
  have k2 : Keep N1 N2 := hM2.kp
  obtain ⟨c3, g3, os3, e3, F3, _⟩ := cloneI_call h.ci (H := N2) (k2.vw (k1.vw (kb.vw hc))) (by omega)
  obtain ⟨N3, hN3⟩ : ∃ N3, N3 = g3.getD N2 := ⟨_, rfl⟩
  have hM3 := F3.wr
  rw [← hN3] at hM3
  have V1 : VS N1 c1 n.names := by rw [hN1]; exact F1.vw.of_l nxt_l.symm
  have V2 : VI N2 c2 n.kids := by rw [hN2]; exact F2.vw.of_l nxt_l.symm
  have V3 : VI N3 c3 n.types := by rw [hN3]; exact F3.vw
  have l1 := hM1.len
  have l2 := hM2.len
  have l3 := hM3.len
  have V1' : VS N3 c1 n.names := hM3.kp.vw (hM2.kp.vw V1)
  have V2' : VI N3 c2 n.kids := hM3.kp.vw V2
  have hMall : Mut { l := H.l, d := none } N3 [] := ((hMb.trans hM1 (by simp)).trans hM2 (by simp)).trans hM3 (by simp)
  have t1 : hget N3 H.l.length = some (.cells [avInt .i64 n.kind, avInt .i64 n.pos, avStr n.name, avInt .i64 n.int, avInt .u64 n.bits, a, b, c] (t_api_Node N)) := hM3.get' (hM2.get' (hM1.get' f1 (by simp)) (by simp)) (by simp)
  have t2 : hget N3 (H.l.length + 1) = some (.cells [.lit (.int .i64 0), .lit (.int .i64 0), .lit (.string (mkS [])), .lit (.int .i64 0), .lit (.int .u64 0), .lit (.slice none 0 0), .lit (.slice none 0 0), .lit (.slice none 0 0)] (t_api_Node N)) := hM3.get' (hM2.get' (hM1.get' f2 (by simp)) (by simp)) (by simp)
  have t1l := hget_lt t1
  have t2l := hget_lt t2
  have q1 := Vw.cg V1
  have q2 := Vw.cg V2
  have q3 := Vw.cg V3
  have q4 := V1.one
  have q5 := V2.one
  have q6 := V3.one
  have b1 : ∀ (Hx : Hp) (Q : AV → Hp → Prop) (m : Mk Q) (m' : Mk Hx), Hx = Hb → bindH1 (some (c1, g1)) Hx Q m m' = Q c1 N1 := by
    rintro Hx Q m m' rfl
    rw [bindH1_nxt (nxt_keeps F1.wr), hN1]
  have b2 : ∀ (Hx : Hp) (Q : AV → Hp → Prop) (m : Mk Q) (m' : Mk Hx), Hx = N1 → bindH1 (some (c2, g2)) Hx Q m m' = Q c2 N2 := by
    rintro Hx Q m m' rfl
    rw [bindH1_nxt (nxt_keeps F2.wr), hN2]
  have u1 : hget Hb H.l.length = some (.cells [avInt .i64 n.kind, avInt .i64 n.pos, avStr n.name, avInt .i64 n.int, avInt .u64 n.bits, a, b, c] (t_api_Node N)) := f1
  apply h.ct.callP (by rfl)
  unfold ndV
  simp [C_tree_cloneTerm, pa, pb, pc, hHb', f1, loadC, e1, b1, e2, b2, e3, bindH_opt, hN3.symm, t1, t2, t1l, t2l, q1, q2, q3, q4, q5, q6, -halloc_d, -hset_d]
  have fin : ∀ cA cB cC cD : AObj, ∀ csA csB csC, ∀ tA tB tC, cA = .cells csA tA → cB = .cells csB tB → cC = .cells csC tC → R (settle H (ndV n c1 c2 c3) (hset (hset (hset (hset N3 H.l.length (some cA)) H.l.length (some cB)) H.l.length (some cC)) (H.l.length + 1) (some cD))) := by
    rintro cA cB cC cD csA csB csC tA tB tC rfl rfl rfl
    have m1 := (((hMall.set (i := H.l.length) (o := some (.cells csA tA)) (.inr (Nat.le_refl _))).set (i := H.l.length) (o := some (.cells csB tB)) (.inr (Nat.le_refl _))).set (i := H.l.length) (o := some (.cells csC tC)) (.inr (Nat.le_refl _))).set (i := H.l.length + 1) (o := some cD) (.inr (Nat.le_succ _))
    have vv : ∀ {z : AV} {es : List AV}, Vw N3 1 z es → Vw (hset (hset (hset (hset N3 H.l.length (some (.cells csA tA))) H.l.length (some (.cells csB tB))) H.l.length (some (.cells csC tC))) (H.l.length + 1) (some cD)) 1 z es := by
      intro z es hz
      have w1 := hz.setC (o := some (.cells csA tA)) t1
      have w2 := w1.setC (p := H.l.length) (o := some (.cells csB tB)) (cs := csA) (t := tA) (by rw [hget_hset, if_pos rfl]; simp [t1l])
      have w3 := w2.setC (p := H.l.length) (o := some (.cells csC tC)) (cs := csB) (t := tB) (by rw [hget_hset, if_pos rfl]; simp [t1l])
      exact w3.setC (p := H.l.length + 1) (cs := _) (t := _) (by
        rw [hget_hset, if_neg (by omega), hget_hset, if_neg (by omega), hget_hset, if_neg (by omega)]
        exact t2)
    rcases es : settle H (ndV n c1 c2 c3) (hset (hset (hset (hset N3 H.l.length (some (.cells csA tA))) H.l.length (some (.cells csB tB))) H.l.length (some (.cells csC tC))) (H.l.length + 1) (some cD)) with ⟨y, g⟩
    obtain ⟨rfl, hu⟩ := settle_under es
    have hu' : g = none → c1.under H.l.length = true ∧ c2.under H.l.length = true ∧ c3.under H.l.length = true := fun hg => by
      have := hu hg
      simp [ndV, AV.under, AV.unders] at this
      exact ⟨this.1, this.2.1, this.2.2⟩
    rw [hR]
    exact ⟨⟨c1, c2, c3, rfl, settle_row m1 es (vv V1') (fun hg => (hu' hg).1), settle_row m1 es (vv V2') (fun hg => (hu' hg).2.1), settle_row m1 es (vv V3) (fun hg => (hu' hg).2.2)⟩, settle_mut0 m1 es⟩
  exact fin _ _ _ _ _ _ _ _ _ _ rfl rfl rfl
theorem cloneType_call (h : TreeB Γ A N) {H : Hp} {x : AV} {n : Ty} (hx : TyR H x n) (ok : n.ok) : ∃ y g, (lim Γ A).call (f_tree_cloneType N) [x] H = some (y, g) ∧ TyR (g.getD H) y n ∧ Mut H (g.getD H) [] := by
  obtain ⟨a, b, rfl, ha, hb⟩ := hx
  obtain ⟨o1, o2, o3, o4⟩ := ok
  obtain ⟨R, hR⟩ : ∃ R : AV × Option Hp → Prop, R = fun r => TyR (r.2.getD H) r.1 n ∧ Mut H (r.2.getD H) [] := ⟨_, rfl⟩
  suffices ∃ r, (lim Γ A).call (f_tree_cloneType N) [tyV n a b] H = some r ∧ R r by
    obtain ⟨⟨y, g⟩, e, hr⟩ := this
    rw [hR] at hr
    exact ⟨y, g, e, hr⟩
  have pa := ha.one
  have pb := hb.one
  obtain ⟨Hb, hHb⟩ : ∃ Hb, Hb = halloc (halloc { l := H.l, d := none } (.cells [avInt .i64 n.kind, avInt .i64 n.pos, avStr n.name, a, b, avBool n.opn] (t_api_TypeNode N))) (.cells [.lit (.int .i64 0), .lit (.int .i64 0), .lit (.string (mkS [])), .lit (.slice none 0 0), .lit (.slice none 0 0), .lit (.bool false)] (t_api_TypeNode N)) := ⟨_, rfl⟩
  have hMb : Mut { l := H.l, d := none } Hb [] := by rw [hHb]; exact ((Mut.refl _ _).alloc _).alloc _
  have kb : Keep H Hb := fun id hid => hMb.get hid (by simp)
  have hlb : Hb.l.length = H.l.length + 2 := by rw [hHb]; simp
  have f1 : hget Hb H.l.length = some (.cells [avInt .i64 n.kind, avInt .i64 n.pos, avStr n.name, a, b, avBool n.opn] (t_api_TypeNode N)) := by rw [hHb]; simp
  have f2 : hget Hb (H.l.length + 1) = some (.cells [.lit (.int .i64 0), .lit (.int .i64 0), .lit (.string (mkS [])), .lit (.slice none 0 0), .lit (.slice none 0 0), .lit (.bool false)] (t_api_TypeNode N)) := by rw [hHb]; simp
  have hHb' := hHb.symm
  obtain ⟨c1, g1, os1, e1, F1, _⟩ := cloneS_call h.cs (H := { l := Hb.l, d := none }) ((kb.vw ha).of_l rfl) (by omega)
  have hM1 := nxt_mut (H := Hb) F1.wr
  obtain ⟨N1, hN1⟩ : ∃ N1, N1 = nxt Hb g1 := ⟨_, rfl⟩
  rw [← hN1] at hM1
  have k1 : Keep Hb N1 := hM1.kp
  obtain ⟨c2, g2, os2, e2, F2, _⟩ := cloneI_call h.ci (H := N1) (k1.vw (kb.vw hb)) (by omega)
  obtain ⟨N3, hN3⟩ : ∃ N3, N3 = g2.getD N1 := ⟨_, rfl⟩
  have hM2 := F2.wr
  rw [← hN3] at hM2
  have V1 : VS N1 c1 n.names := by rw [hN1]; exact F1.vw.of_l nxt_l.symm
  have V2' : VI N3 c2 n.kids := by rw [hN3]; exact F2.vw
  have l1 := hM1.len
  have l2 := hM2.len
  have V1' : VS N3 c1 n.names := hM2.kp.vw V1
  have hMall : Mut { l := H.l, d := none } N3 [] := (hMb.trans hM1 (by simp)).trans hM2 (by simp)
  have t1 : hget N3 H.l.length = some (.cells [avInt .i64 n.kind, avInt .i64 n.pos, avStr n.name, a, b, avBool n.opn] (t_api_TypeNode N)) := hM2.get' (hM1.get' f1 (by simp)) (by simp)
  have t2 : hget N3 (H.l.length + 1) = some (.cells [.lit (.int .i64 0), .lit (.int .i64 0), .lit (.string (mkS [])), .lit (.slice none 0 0), .lit (.slice none 0 0), .lit (.bool false)] (t_api_TypeNode N)) := hM2.get' (hM1.get' f2 (by simp)) (by simp)
  have t1l := hget_lt t1
  have t2l := hget_lt t2
  have q1 := Vw.cg V1
  have q2 := Vw.cg V2'
  have q4 := V1.one
  have q5 := V2'.one
  have b1 : ∀ (Hx : Hp) (Q : AV → Hp → Prop) (m : Mk Q) (m' : Mk Hx), Hx = Hb → bindH1 (some (c1, g1)) Hx Q m m' = Q c1 N1 := by
    rintro Hx Q m m' rfl
    rw [bindH1_nxt (nxt_keeps F1.wr), hN1]
  have u1 : hget Hb H.l.length = some (.cells [avInt .i64 n.kind, avInt .i64 n.pos, avStr n.name, a, b, avBool n.opn] (t_api_TypeNode N)) := f1
  apply h.cy.callP (by rfl)
  unfold tyV
  simp [C_tree_cloneType, pa, pb, hHb', f1, loadC, e1, b1, e2, bindH_opt, hN3.symm, t1, t2, t1l, t2l, q1, q2, q4, q5, -halloc_d, -hset_d]
  have fin : ∀ cA cB cD : AObj, ∀ csA csB, ∀ tA tB, cA = .cells csA tA → cB = .cells csB tB → R (settle H (tyV n c1 c2) (hset (hset (hset N3 H.l.length (some cA)) H.l.length (some cB)) (H.l.length + 1) (some cD))) := by
    rintro cA cB cD csA csB tA tB rfl rfl
    have m1 := ((hMall.set (i := H.l.length) (o := some (.cells csA tA)) (.inr (Nat.le_refl _))).set (i := H.l.length) (o := some (.cells csB tB)) (.inr (Nat.le_refl _))).set (i := H.l.length + 1) (o := some cD) (.inr (Nat.le_succ _))
    have vv : ∀ {z : AV} {es : List AV}, Vw N3 1 z es → Vw (hset (hset (hset N3 H.l.length (some (.cells csA tA))) H.l.length (some (.cells csB tB))) (H.l.length + 1) (some cD)) 1 z es := by
      intro z es hz
      have w1 := hz.setC (o := some (.cells csA tA)) t1
      have w2 := w1.setC (p := H.l.length) (o := some (.cells csB tB)) (cs := csA) (t := tA) (by rw [hget_hset, if_pos rfl]; simp [t1l])
      exact w2.setC (p := H.l.length + 1) (cs := _) (t := _) (by
        rw [hget_hset, if_neg (by omega), hget_hset, if_neg (by omega)]
        exact t2)
    rcases es : settle H (tyV n c1 c2) (hset (hset (hset N3 H.l.length (some (.cells csA tA))) H.l.length (some (.cells csB tB))) (H.l.length + 1) (some cD)) with ⟨y, g⟩
    obtain ⟨rfl, hu⟩ := settle_under es
    have hu' : g = none → c1.under H.l.length = true ∧ c2.under H.l.length = true := fun hg => by
      have := hu hg
      simp [tyV, AV.under, AV.unders] at this
      exact ⟨this.1, this.2⟩
    rw [hR]
    exact ⟨⟨c1, c2, rfl, settle_row m1 es (vv V1') (fun hg => (hu' hg).1), settle_row m1 es (vv V2') (fun hg => (hu' hg).2)⟩, settle_mut0 m1 es⟩
  exact fin _ _ _ _ _ _ _ rfl rfl
end
end Go.Proofs.Eng
/- What is built of a tree: run by the engine. -/
set_option linter.unusedVariables false
set_option linter.unusedSimpArgs false
set_option maxRecDepth 100000
namespace Go.Proofs.Eng
open Go
/-- A row of a builder: its elements, laid. -/
structure BRow {α : Type} (Q : Hp → AV → α → Prop) (H : Hp) (n0 : Nat) (e : TypeId) (sz : Nat) (x : AV) (l : List α) : Prop where
  row : ∃ xs, RowAt H e sz x xs ∧ xs.length = l.length ∧ (∀ (i : Nat) (y : AV) (n : α), xs[i]? = some y → l[i]? = some n → Q H y n) ∧ xs.all (fun y => y.good && y.cells.length == sz) = true
  old : ∀ id, kid x = some id → n0 ≤ id
structure Bd (N : Nat → Nat) (n0 : Nat) (H : Hp) (p : Nat) (t : Tr) : Prop where
  cell : ∃ sn st sa, hget H p = some (.cells [sn, st, sa] (t_tree_Builder N)) ∧ BRow NdR H n0 (t_api_Node N) 8 sn t.nodes ∧ BRow TyR H n0 (t_api_TypeNode N) 6 st t.types ∧ BRow AlR H n0 (t_api_Alias N) 3 sa t.als
  p0 : n0 ≤ p
/-- What a builder's call leaves: all that is older, and all that is no row. -/
structure Spare (n0 p : Nat) (H g : Hp) : Prop where
  len : H.l.length ≤ g.l.length
  old : ∀ id o, id < n0 → hget H id = some o → hget g id = some o
  cell : ∀ id cs t, hget H id = some (.cells cs t) → id ≠ p → hget g id = some (.cells cs t)
theorem Vw.keepA {H G : Hp} {sz : Nat} {x : AV} {es : List AV} (h : Vw H sz x es) (k : ∀ id es e, hget H id = some (.arr sz es e) → hget G id = some (.arr sz es e)) : Vw G sz x es := by
  rcases h with h | ⟨id, off, e, all, h0, h1, h2⟩
  · exact .inl h
  · exact .inr ⟨id, off, e, all, h0, k _ _ _ h1, h2⟩
theorem NdR.keepA {H G : Hp} {x : AV} {n : Nd} (h : NdR H x n) (k : ∀ id es e, hget H id = some (.arr 1 es e) → hget G id = some (.arr 1 es e)) : NdR G x n := by
  obtain ⟨a, b, c, e, h1, h2, h3⟩ := h
  exact ⟨a, b, c, e, h1.keepA k, h2.keepA k, h3.keepA k⟩
theorem TyR.keepA {H G : Hp} {x : AV} {n : Ty} (h : TyR H x n) (k : ∀ id es e, hget H id = some (.arr 1 es e) → hget G id = some (.arr 1 es e)) : TyR G x n := by
  obtain ⟨a, b, e, h1, h2⟩ := h
  exact ⟨a, b, e, h1.keepA k, h2.keepA k⟩
theorem BRow.keepA {α : Type} {Q : Hp → AV → α → Prop} {H G : Hp} {n0 : Nat} {e : TypeId} {sz : Nat} {x : AV} {l : List α} (h : BRow Q H n0 e sz x l) (hq : ∀ x n, Q H x n → Q G x n) (k : ∀ id es e, hget H id = some (.arr sz es e) → hget G id = some (.arr sz es e)) : BRow Q G n0 e sz x l := by
  obtain ⟨⟨xs, h1, h2, h3, h4⟩, h5⟩ := h
  exact ⟨⟨xs, h1.keep fun id o ho hk => by
    rcases h1 with ⟨rfl, _⟩ | ⟨id', rfl, h⟩
    · cases hk
    · simp only [kid, Option.some.injEq] at hk
      subst hk
      rw [h] at ho
      simp only [Option.some.injEq] at ho
      subst ho
      exact k _ _ _ h, h2, fun i y n a b => hq _ _ (h3 i y n a b), h4⟩, h5⟩
/-- One more element. -/
theorem BRow.push {α : Type} {Q : Hp → AV → α → Prop} {H : Hp} {n0 : Nat} {e : TypeId} {sz bytes : Nat} {x y : AV} {l : List α} {a : α} (h : BRow Q H n0 e sz x l) (hs : sz ≠ 1) (hn0 : n0 ≤ H.l.length) (hy : (y.good && y.cells.length == sz) = true) (hb : (l.length + 1) * bytes ≤ roomMax) (hqa : Q H y a) (hq : ∀ G x n, Q H x n → (∀ id es e, hget H id = some (.arr 1 es e) → hget G id = some (.arr 1 es e)) → Q G x n) :
    ∃ v H', appendOn (halloc H (.arr sz [y] e)) e sz bytes x [y] = some (v, some H') ∧ v.good = true ∧ v.cells = [v] ∧ asLen v = some (l.length + 1) ∧ BRow Q H' n0 e sz v (l ++ [a]) ∧ H.l.length + 2 ≤ H'.l.length ∧ (∀ id o, id < n0 → hget H id = some o → hget H' id = some o) ∧ (∀ id o, hget H id = some o → (∀ es, o ≠ .arr sz es e) → hget H' id = some o) ∧ (∀ B, Mut B H [] → B.l.length ≤ n0 → Mut B H' []) := by
  obtain ⟨⟨xs, h1, h2, h3, h4⟩, h5⟩ := h
  have h1' : RowAt (halloc H (.arr sz [y] e)) e sz x xs := h1.alloc _
  obtain ⟨v, G, a1, a2, a3, a4, a5, a6⟩ := h1'.app (bytes := bytes) (ys := [y]) (by simp) (by rw [h2]; simpa using hb) (by simpa using hy)
  have keep : ∀ id o, hget H id = some o → (∀ es, o ≠ .arr sz es e) → hget G id = some o := fun id o ho hne => by
    refine a5 id o ?_ ?_
    · rw [hget_halloc, if_neg (Nat.ne_of_lt (hget_lt ho))]; exact ho
    · intro hk
      rcases h1 with ⟨rfl, _⟩ | ⟨id', rfl, h⟩
      · cases hk
      · simp only [kid, Option.some.injEq] at hk
        subst hk
        rw [h] at ho
        simp only [Option.some.injEq] at ho
        exact hne _ ho.symm
  have keep1 : ∀ id es' e', hget H id = some (.arr 1 es' e') → hget G id = some (.arr 1 es' e') := fun id es' e' ho => keep id _ ho (fun es he => by
    simp only [AObj.arr.injEq] at he
    exact hs he.1.symm)
  refine ⟨v, G, a1, by rw [a2]; rfl, by rw [a2]; rfl, by rw [a2]; simp [asLen, h2], ⟨⟨xs ++ [y], .inr ⟨_, a2, a3⟩, by simp [h2], fun i z n hz hn => ?_, by rw [List.all_append, h4]; simpa using hy⟩, fun id hk => ?_⟩, by rw [a4]; simp, fun id o hid hg => ?_, keep, fun B hB hBn => a6 B [] (hB.alloc _) (fun j hj => Nat.le_trans hBn (h5 j hj))⟩
  · by_cases hi : i < xs.length
    · rw [List.getElem?_append_left hi] at hz
      rw [List.getElem?_append_left (by omega)] at hn
      exact hq _ _ _ (h3 i z n hz hn) keep1
    · have hlt := (List.getElem?_eq_some_iff.1 hz).1
      simp at hlt
      have hi2 : i = xs.length := by omega
      subst hi2
      rw [List.getElem?_append_right (Nat.le_refl _)] at hz
      rw [List.getElem?_append_right (by omega)] at hn
      simp [h2] at hz hn
      subst hz
      subst hn
      exact hq _ _ _ hqa keep1
  · rw [a2] at hk
    simp only [kid, Option.some.injEq] at hk
    subst hk
    simp; omega
  · refine a5 id o ?_ ?_
    · rw [hget_halloc, if_neg (Nat.ne_of_lt (hget_lt hg))]; exact hg
    · intro hk
      have := h5 id hk
      omega
theorem RowR.more {α : Type} {Q : Hp → AV → α → Prop} {sz : Nat} {H G : Hp} {x : AV} {l : List α} (h : RowR Q sz H x l) (k : ∀ id o, hget H id = some o → hget G id = some o) (hq : ∀ x n, Q H x n → Q G x n) : RowR Q sz G x l := by
  obtain ⟨xs, h1, h2, h3⟩ := h
  exact ⟨xs, h1.keepA fun id es e => k id _, h2, fun i y n a b => hq _ _ (h3 i y n a b)⟩
theorem TrR.more {H G : Hp} {x : AV} {t : Tr} (h : TrR H x t) (k : ∀ id o, hget H id = some o → hget G id = some o) : TrR G x t := by
  obtain ⟨a, b, c, e, h1, h2, h3⟩ := h
  exact ⟨a, b, c, e, h1.more k fun _ _ h => h.keepA fun id es e => k id _, h2.more k fun _ _ h => h.keepA fun id es e => k id _, h3.more k fun _ _ h => h⟩
end Go.Proofs.Eng
/- A builder's terms and types: run by the engine. -/
set_option linter.unusedVariables false
set_option linter.unusedSimpArgs false
set_option maxRecDepth 100000
namespace Go.Proofs.Eng
open Go
section
variable {Γ : Sums} {A : Tab} {N : Nat → Nat}
theorem Term_call (h : TreeB Γ A N) {n0 p : Nat} {H : Hp} {t : Tr} (hb : Bd N n0 H p t) {x : AV} {n : Nd} (hx : NdR H x n) (ok : n.ok) (hl : t.nodes.length < 65536) :
    ∃ g, (lim Γ A).call (f_p_tree_Builder_Term N) [.ptr p 0, x] H = some (.tup [avInt .i64 (t.nodes.length : Nat), avInt .i64 0], some g) ∧ Bd N n0 g p ⟨t.nodes ++ [n], t.types, t.als⟩ ∧ Spare n0 p H g := by
  obtain ⟨R, hR⟩ : ∃ R : AV × Option Hp → Prop, R = fun r => ∃ g, r = (.tup [avInt .i64 (t.nodes.length : Nat), avInt .i64 0], some g) ∧ Bd N n0 g p ⟨t.nodes ++ [n], t.types, t.als⟩ ∧ Spare n0 p H g := ⟨_, rfl⟩
  suffices ∃ r, (lim Γ A).call (f_p_tree_Builder_Term N) [.ptr p 0, x] H = some r ∧ R r by
    obtain ⟨r, e, hr⟩ := this
    rw [hR] at hr
    obtain ⟨g, rfl, h1⟩ := hr
    exact ⟨g, e, h1⟩
  obtain ⟨⟨sn, st, sa, hp, r1, r2, r3⟩, hp0⟩ := hb
  obtain ⟨a, b, c, rfl, ha, hb', hc⟩ := hx
  have hlt := hget_lt hp
  have pa := ha.one
  have pb := hb'.one
  have pc := hc.one
  obtain ⟨Hb, hHb⟩ : ∃ Hb, Hb = halloc { l := H.l, d := none } (.cells [avInt .i64 n.kind, avInt .i64 n.pos, avStr n.name, avInt .i64 n.int, avInt .u64 n.bits, a, b, c] (t_api_Node N)) := ⟨_, rfl⟩
  have hHb' := hHb.symm
  have hMb : Mut { l := H.l, d := none } Hb [] := by rw [hHb]; exact (Mut.refl _ _).alloc _
  have kb : Keep H Hb := fun id hid => hMb.get hid (by simp)
  have hlb : Hb.l.length = H.l.length + 1 := by rw [hHb]; simp
  have fb : hget Hb H.l.length = some (.cells [avInt .i64 n.kind, avInt .i64 n.pos, avStr n.name, avInt .i64 n.int, avInt .u64 n.bits, a, b, c] (t_api_Node N)) := by rw [hHb]; simp
  have fp : hget Hb p = some (.cells [sn, st, sa] (t_tree_Builder N)) := by rw [kb p hlt]; exact hp
  have hx' : NdR { l := Hb.l, d := none } (ndV n a b c) n := ⟨a, b, c, rfl, (kb.vw ha).of_l rfl, (kb.vw hb').of_l rfl, (kb.vw hc).of_l rfl⟩
  obtain ⟨y, g1, e1, y1, y2⟩ := cloneTerm_call h hx' ok
  have hM1 := nxt_mut (H := Hb) y2
  obtain ⟨N1, hN1⟩ : ∃ N1, N1 = nxt Hb g1 := ⟨_, rfl⟩
  rw [← hN1] at hM1
  have yN : NdR N1 y n := y1.keepA fun id es e ho => by
    rw [hN1]
    unfold hget at ho ⊢
    rw [nxt_l]; exact ho
  have b1 : ∀ (Hx : Hp) (Q : AV → Hp → Prop) (m : Mk Q) (m' : Mk Hx), Hx = Hb → bindH1 (some (y, g1)) Hx Q m m' = Q y N1 := by
    rintro Hx Q m m' rfl
    rw [bindH1_nxt (nxt_keeps y2), hN1]
  obtain ⟨a', b', c', rfl, va, vb, vc⟩ := id yN
  have qa := va.one
  have qb := vb.one
  have qc := vc.one
  have hMall : Mut { l := H.l, d := none } N1 [] := hMb.trans hM1 (by simp)
  have kA : ∀ id o, hget H id = some o → hget N1 id = some o := fun id o ho => hMall.get' (i := id) ho (by simp)
  have r1' : BRow NdR N1 n0 (t_api_Node N) 8 sn t.nodes := r1.keepA (fun _ _ h => h.keepA fun id es e => kA id _) (fun id es e => kA id _)
  have r2' : BRow TyR N1 n0 (t_api_TypeNode N) 6 st t.types := r2.keepA (fun _ _ h => h.keepA fun id es e => kA id _) (fun id es e => kA id _)
  have r3' : BRow AlR N1 n0 (t_api_Alias N) 3 sa t.als := r3.keepA (fun _ _ h => h) (fun id es e => kA id _)
  have hlN := hMall.len
  obtain ⟨v, G, s1, s2, s3, s4, s5, s6, s7, s8, _⟩ := r1'.push (bytes := 120) (y := ndV n a' b' c') (a := n) (by simp) (by simp only at hlN; omega) (by simp [ndV, qa, qb, qc]) (by unfold roomMax; omega) yN (fun G x n hq k => hq.keepA k)
  have fp1 : hget N1 p = some (.cells [sn, st, sa] (t_tree_Builder N)) := kA p _ hp
  have fp2 : hget G p = some (.cells [sn, st, sa] (t_tree_Builder N)) := s8 p _ fp1 (by simp)
  have hlG := hget_lt fp2
  have hln : asLen sn = some t.nodes.length := by
    obtain ⟨⟨xs, h1, h2, _⟩, _⟩ := r1
    rw [h1.len, h2]
  have hl' : ¬ (65536 : Int) ≤ t.nodes.length := by omega
  have hw : IntKind.wrap .i64 (((t.nodes.length + 1 : Nat) : Int) - 1) = (t.nodes.length : Int) := by rw [wrap64 (by omega) (by omega)]; omega
  have hsw := settle_wrote (H := H) (H' := hset G p (some (.cells [v, st, sa] (t_tree_Builder N)))) (v := .tup [avInt .i64 (t.nodes.length : Nat), avInt .i64 0]) (hset_wrote hlt)
  have kG : ∀ id es e, hget G id = some (.arr 1 es e) → hget (hset G p (some (.cells [v, st, sa] (t_tree_Builder N)))) id = some (.arr 1 es e) := fun id es e ho => by
    rw [hget_hset, if_neg]
    · exact ho
    · rintro rfl; rw [fp2] at ho; cases ho
  have kG2 : ∀ sz id es e, hget G id = some (.arr sz es e) → hget (hset G p (some (.cells [v, st, sa] (t_tree_Builder N)))) id = some (.arr sz es e) := fun sz id es e ho => by
    rw [hget_hset, if_neg]
    · exact ho
    · rintro rfl; rw [fp2] at ho; cases ho
  have kN : ∀ sz id es e, sz ≠ 8 → hget N1 id = some (.arr sz es e) → hget (hset G p (some (.cells [v, st, sa] (t_tree_Builder N)))) id = some (.arr sz es e) := fun sz id es e hs ho => kG2 sz id es e (s8 id _ ho (by simp [hs]))
  have fin : R (.tup [avInt .i64 (t.nodes.length : Nat), avInt .i64 0], some { l := (hset G p (some (.cells [v, st, sa] (t_tree_Builder N)))).l, d := dminO H.d (hset G p (some (.cells [v, st, sa] (t_tree_Builder N)))).d }) := by
    rw [hR]
    refine ⟨_, rfl, ⟨⟨v, st, sa, ?_, ?_, ?_, ?_⟩, hp0⟩, ⟨?_, fun id o hid ho => ?_, fun id cs tt ho hne => ?_⟩⟩
    · rw [hget_l, hget_hset, if_pos rfl, if_pos hlG]
    · refine (s5.keepA (fun _ _ h => h.keepA kG) (kG2 8)).keepA (fun _ _ h => h.keepA fun id es e ho => by rw [hget_l]; exact ho) (fun id es e ho => by rw [hget_l]; exact ho)
    · refine (r2'.keepA (fun _ _ h => h.keepA fun id es e => kN 1 id es e (by simp)) (fun id es e => kN 6 id es e (by simp))).keepA (fun _ _ h => h.keepA fun id es e ho => by rw [hget_l]; exact ho) (fun id es e ho => by rw [hget_l]; exact ho)
    · exact r3'.keepA (fun _ _ h => h) (fun id es e ho => by rw [hget_l]; exact kN 3 id es e (by simp) ho)
    · simp; simp only at hlN; omega
    · rw [hget_l, hget_hset, if_neg (by omega)]
      exact s7 id o hid (kA id o ho)
    · rw [hget_l, hget_hset, if_neg hne]
      exact s8 id _ (kA id _ ho) (by simp)
  apply h.term.callP (by rfl)
  unfold ndV at e1 s1 ⊢
  simp only [ndV] at b1
  simp [C_p_tree_Builder_Term, hHb', fb, fp, hln, hl', loadC, pa, pb, pc, e1, b1, qa, qb, qc, fillA, repl, setFrom, chunk, asElems, s1, s2, s3, s4, fp2, hlG, hw, -hset_d, -halloc_d, -Int.natCast_add]
  rw [hsw]
  exact fin
theorem BType_call (h : TreeB Γ A N) {n0 p : Nat} {H : Hp} {t : Tr} (hb : Bd N n0 H p t) {x : AV} {n : Ty} (hx : TyR H x n) (ok : n.ok) (hl : t.types.length < 65536) :
    ∃ g, (lim Γ A).call (f_p_tree_Builder_Type N) [.ptr p 0, x] H = some (.tup [avInt .i64 (t.types.length : Nat), avInt .i64 0], some g) ∧ Bd N n0 g p ⟨t.nodes, t.types ++ [n], t.als⟩ ∧ Spare n0 p H g := by
  obtain ⟨R, hR⟩ : ∃ R : AV × Option Hp → Prop, R = fun r => ∃ g, r = (.tup [avInt .i64 (t.types.length : Nat), avInt .i64 0], some g) ∧ Bd N n0 g p ⟨t.nodes, t.types ++ [n], t.als⟩ ∧ Spare n0 p H g := ⟨_, rfl⟩
  suffices ∃ r, (lim Γ A).call (f_p_tree_Builder_Type N) [.ptr p 0, x] H = some r ∧ R r by
    obtain ⟨r, e, hr⟩ := this
    rw [hR] at hr
    obtain ⟨g, rfl, h1⟩ := hr
    exact ⟨g, e, h1⟩
  obtain ⟨⟨sn, st, sa, hp, r1, r2, r3⟩, hp0⟩ := hb
  obtain ⟨a, b, rfl, ha, hb'⟩ := hx
  have hlt := hget_lt hp
  have pa := ha.one
  have pb := hb'.one
  obtain ⟨Hb, hHb⟩ : ∃ Hb, Hb = halloc { l := H.l, d := none } (.cells [avInt .i64 n.kind, avInt .i64 n.pos, avStr n.name, a, b, avBool n.opn] (t_api_TypeNode N)) := ⟨_, rfl⟩
  have hHb' := hHb.symm
  have hMb : Mut { l := H.l, d := none } Hb [] := by rw [hHb]; exact (Mut.refl _ _).alloc _
  have kb : Keep H Hb := fun id hid => hMb.get hid (by simp)
  have hlb : Hb.l.length = H.l.length + 1 := by rw [hHb]; simp
  have fb : hget Hb H.l.length = some (.cells [avInt .i64 n.kind, avInt .i64 n.pos, avStr n.name, a, b, avBool n.opn] (t_api_TypeNode N)) := by rw [hHb]; simp
  have fp : hget Hb p = some (.cells [sn, st, sa] (t_tree_Builder N)) := by rw [kb p hlt]; exact hp
  have hx' : TyR { l := Hb.l, d := none } (tyV n a b) n := ⟨a, b, rfl, (kb.vw ha).of_l rfl, (kb.vw hb').of_l rfl⟩
  obtain ⟨y, g1, e1, y1, y2⟩ := cloneType_call h hx' ok
  have hM1 := nxt_mut (H := Hb) y2
  obtain ⟨N1, hN1⟩ : ∃ N1, N1 = nxt Hb g1 := ⟨_, rfl⟩
  rw [← hN1] at hM1
  have yN : TyR N1 y n := y1.keepA fun id es e ho => by
    rw [hN1]
    unfold hget at ho ⊢
    rw [nxt_l]; exact ho
  have b1 : ∀ (Hx : Hp) (Q : AV → Hp → Prop) (m : Mk Q) (m' : Mk Hx), Hx = Hb → bindH1 (some (y, g1)) Hx Q m m' = Q y N1 := by
    rintro Hx Q m m' rfl
    rw [bindH1_nxt (nxt_keeps y2), hN1]
  obtain ⟨a', b', rfl, va, vb⟩ := id yN
  have qa := va.one
  have qb := vb.one
  have hMall : Mut { l := H.l, d := none } N1 [] := hMb.trans hM1 (by simp)
  have kA : ∀ id o, hget H id = some o → hget N1 id = some o := fun id o ho => hMall.get' (i := id) ho (by simp)
  have r1' : BRow NdR N1 n0 (t_api_Node N) 8 sn t.nodes := r1.keepA (fun _ _ h => h.keepA fun id es e => kA id _) (fun id es e => kA id _)
  have r2' : BRow TyR N1 n0 (t_api_TypeNode N) 6 st t.types := r2.keepA (fun _ _ h => h.keepA fun id es e => kA id _) (fun id es e => kA id _)
  have r3' : BRow AlR N1 n0 (t_api_Alias N) 3 sa t.als := r3.keepA (fun _ _ h => h) (fun id es e => kA id _)
  have hlN := hMall.len
  obtain ⟨v, G, s1, s2, s3, s4, s5, s6, s7, s8, _⟩ := r2'.push (bytes := 88) (y := tyV n a' b') (a := n) (by simp) (by simp only at hlN; omega) (by simp [tyV, qa, qb]) (by unfold roomMax; omega) yN (fun G x n hq k => hq.keepA k)
  have fp1 : hget N1 p = some (.cells [sn, st, sa] (t_tree_Builder N)) := kA p _ hp
  have fp2 : hget G p = some (.cells [sn, st, sa] (t_tree_Builder N)) := s8 p _ fp1 (by simp)
  have hlG := hget_lt fp2
  have hln : asLen st = some t.types.length := by
    obtain ⟨⟨xs, h1, h2, _⟩, _⟩ := r2
    rw [h1.len, h2]
  have hl' : ¬ (65536 : Int) ≤ t.types.length := by omega
  have hw : IntKind.wrap .i64 (((t.types.length + 1 : Nat) : Int) - 1) = (t.types.length : Int) := by rw [wrap64 (by omega) (by omega)]; omega
  have hsw := settle_wrote (H := H) (H' := hset G p (some (.cells [sn, v, sa] (t_tree_Builder N)))) (v := .tup [avInt .i64 (t.types.length : Nat), avInt .i64 0]) (hset_wrote hlt)
  have kG : ∀ id es e, hget G id = some (.arr 1 es e) → hget (hset G p (some (.cells [sn, v, sa] (t_tree_Builder N)))) id = some (.arr 1 es e) := fun id es e ho => by
    rw [hget_hset, if_neg]
    · exact ho
    · rintro rfl; rw [fp2] at ho; cases ho
  have kG2 : ∀ sz id es e, hget G id = some (.arr sz es e) → hget (hset G p (some (.cells [sn, v, sa] (t_tree_Builder N)))) id = some (.arr sz es e) := fun sz id es e ho => by
    rw [hget_hset, if_neg]
    · exact ho
    · rintro rfl; rw [fp2] at ho; cases ho
  have kN : ∀ sz id es e, sz ≠ 6 → hget N1 id = some (.arr sz es e) → hget (hset G p (some (.cells [sn, v, sa] (t_tree_Builder N)))) id = some (.arr sz es e) := fun sz id es e hs ho => kG2 sz id es e (s8 id _ ho (by simp [hs]))
  have fin : R (.tup [avInt .i64 (t.types.length : Nat), avInt .i64 0], some { l := (hset G p (some (.cells [sn, v, sa] (t_tree_Builder N)))).l, d := dminO H.d (hset G p (some (.cells [sn, v, sa] (t_tree_Builder N)))).d }) := by
    rw [hR]
    refine ⟨_, rfl, ⟨⟨sn, v, sa, ?_, ?_, ?_, ?_⟩, hp0⟩, ⟨?_, fun id o hid ho => ?_, fun id cs tt ho hne => ?_⟩⟩
    · rw [hget_l, hget_hset, if_pos rfl, if_pos hlG]
    · refine (r1'.keepA (fun _ _ h => h.keepA fun id es e => kN 1 id es e (by simp)) (fun id es e => kN 8 id es e (by simp))).keepA (fun _ _ h => h.keepA fun id es e ho => by rw [hget_l]; exact ho) (fun id es e ho => by rw [hget_l]; exact ho)
    · refine (s5.keepA (fun _ _ h => h.keepA kG) (kG2 6)).keepA (fun _ _ h => h.keepA fun id es e ho => by rw [hget_l]; exact ho) (fun id es e ho => by rw [hget_l]; exact ho)
    · exact r3'.keepA (fun _ _ h => h) (fun id es e ho => by rw [hget_l]; exact kN 3 id es e (by simp) ho)
    · simp; simp only at hlN; omega
    · rw [hget_l, hget_hset, if_neg (by omega)]
      exact s7 id o hid (kA id o ho)
    · rw [hget_l, hget_hset, if_neg hne]
      exact s8 id _ (kA id _ ho) (by simp)
  apply h.type.callP (by rfl)
  unfold tyV at e1 s1 ⊢
  simp only [tyV] at b1
  simp [C_p_tree_Builder_Type, hHb', fb, fp, hln, hl', loadC, pa, pb, e1, b1, qa, qb, fillA, repl, setFrom, chunk, asElems, s1, s2, s3, s4, fp2, hlG, hw, -hset_d, -halloc_d, -Int.natCast_add]
  rw [hsw]
  exact fin
theorem BAlias_call (h : Has Γ A (f_p_tree_Builder_Alias N) (C_p_tree_Builder_Alias N)) {n0 p : Nat} {H : Hp} {t : Tr} (hb : Bd N n0 H p t) {n : Al} (hl : t.als.length < 2 ^ 30) :
    ∃ g, (lim Γ A).call (f_p_tree_Builder_Alias N) [.ptr p 0, alV n] H = some (.tup [], some g) ∧ Bd N n0 g p ⟨t.nodes, t.types, t.als ++ [n]⟩ ∧ Spare n0 p H g := by
  obtain ⟨R, hR⟩ : ∃ R : AV × Option Hp → Prop, R = fun r => ∃ g, r = (.tup [], some g) ∧ Bd N n0 g p ⟨t.nodes, t.types, t.als ++ [n]⟩ ∧ Spare n0 p H g := ⟨_, rfl⟩
  suffices ∃ r, (lim Γ A).call (f_p_tree_Builder_Alias N) [.ptr p 0, alV n] H = some r ∧ R r by
    obtain ⟨r, e, hr⟩ := this
    rw [hR] at hr
    obtain ⟨g, rfl, h1⟩ := hr
    exact ⟨g, e, h1⟩
  obtain ⟨⟨sn, st, sa, hp, r1, r2, r3⟩, hp0⟩ := hb
  have hlt := hget_lt hp
  obtain ⟨N1, hHb⟩ : ∃ Hb, Hb = halloc { l := H.l, d := none } (.cells [avStr n.name, avInt .i64 n.type, avInt .i64 n.pos] (t_api_Alias N)) := ⟨_, rfl⟩
  have hHb' := hHb.symm
  have hMall : Mut { l := H.l, d := none } N1 [] := by rw [hHb]; exact (Mut.refl _ _).alloc _
  have kb : Keep H N1 := fun id hid => hMall.get hid (by simp)
  have fb : hget N1 H.l.length = some (.cells [avStr n.name, avInt .i64 n.type, avInt .i64 n.pos] (t_api_Alias N)) := by rw [hHb]; simp
  have fp1 : hget N1 p = some (.cells [sn, st, sa] (t_tree_Builder N)) := by rw [kb p hlt]; exact hp
  have kA : ∀ id o, hget H id = some o → hget N1 id = some o := fun id o ho => hMall.get' (i := id) ho (by simp)
  have r1' : BRow NdR N1 n0 (t_api_Node N) 8 sn t.nodes := r1.keepA (fun _ _ h => h.keepA fun id es e => kA id _) (fun id es e => kA id _)
  have r2' : BRow TyR N1 n0 (t_api_TypeNode N) 6 st t.types := r2.keepA (fun _ _ h => h.keepA fun id es e => kA id _) (fun id es e => kA id _)
  have r3' : BRow AlR N1 n0 (t_api_Alias N) 3 sa t.als := r3.keepA (fun _ _ h => h) (fun id es e => kA id _)
  have hlN := hMall.len
  obtain ⟨v, G, s1, s2, s3, s4, s5, s6, s7, s8, _⟩ := r3'.push (bytes := 32) (y := alV n) (a := n) (by simp) (by simp only at hlN; omega) (by simp [alV]) (by unfold roomMax; omega) rfl (fun G x n hq k => hq)
  have fp2 : hget G p = some (.cells [sn, st, sa] (t_tree_Builder N)) := s8 p _ fp1 (by simp)
  have hlG := hget_lt fp2
  have hsw := settle_wrote (H := H) (H' := hset G p (some (.cells [sn, st, v] (t_tree_Builder N)))) (v := .tup []) (hset_wrote hlt)
  have kG2 : ∀ sz id es e, hget G id = some (.arr sz es e) → hget (hset G p (some (.cells [sn, st, v] (t_tree_Builder N)))) id = some (.arr sz es e) := fun sz id es e ho => by
    rw [hget_hset, if_neg]
    · exact ho
    · rintro rfl; rw [fp2] at ho; cases ho
  have kN : ∀ sz id es e, sz ≠ 3 → hget N1 id = some (.arr sz es e) → hget (hset G p (some (.cells [sn, st, v] (t_tree_Builder N)))) id = some (.arr sz es e) := fun sz id es e hs ho => kG2 sz id es e (s8 id _ ho (by simp [hs]))
  have fin : R (.tup [], some { l := (hset G p (some (.cells [sn, st, v] (t_tree_Builder N)))).l, d := dminO H.d (hset G p (some (.cells [sn, st, v] (t_tree_Builder N)))).d }) := by
    rw [hR]
    refine ⟨_, rfl, ⟨⟨sn, st, v, ?_, ?_, ?_, ?_⟩, hp0⟩, ⟨?_, fun id o hid ho => ?_, fun id cs tt ho hne => ?_⟩⟩
    · rw [hget_l, hget_hset, if_pos rfl, if_pos hlG]
    · refine (r1'.keepA (fun _ _ h => h.keepA fun id es e => kN 1 id es e (by simp)) (fun id es e => kN 8 id es e (by simp))).keepA (fun _ _ h => h.keepA fun id es e ho => by rw [hget_l]; exact ho) (fun id es e ho => by rw [hget_l]; exact ho)
    · refine (r2'.keepA (fun _ _ h => h.keepA fun id es e => kN 1 id es e (by simp)) (fun id es e => kN 6 id es e (by simp))).keepA (fun _ _ h => h.keepA fun id es e ho => by rw [hget_l]; exact ho) (fun id es e ho => by rw [hget_l]; exact ho)
    · exact s5.keepA (fun _ _ h => h) (fun id es e ho => by rw [hget_l]; exact kG2 3 id es e ho)
    · simp; simp only at hlN; omega
    · rw [hget_l, hget_hset, if_neg (by omega)]
      exact s7 id o hid (kA id o ho)
    · rw [hget_l, hget_hset, if_neg hne]
      exact s8 id _ (kA id _ ho) (by simp)
  apply h.callP (by rfl)
  unfold alV at s1 ⊢
  simp [C_p_tree_Builder_Alias, hHb', fb, fp1, loadC, fillA, repl, setFrom, chunk, asElems, s1, s2, s3, s4, fp2, hlG, -hset_d, -halloc_d, -Int.natCast_add]
  rw [hsw]
  exact fin
theorem aeq_nilPP : aeq .pptr (.lit (.pointer none)) (.lit (.pointer none)) = some true := _root_.id rfl
theorem none_calls (h : TreeB Γ A N) (ha : Has Γ A (f_p_tree_Builder_Alias N) (C_p_tree_Builder_Alias N)) (H : Hp) (n : Nd) (m : Ty) (k : Al) (a b c : AV) (pa : a.one = true) (pb : b.one = true) (pc : c.one = true) :
    (lim Γ A).call (f_p_tree_Builder_Term N) [.lit (.pointer none), ndV n a b c] H = some (.tup [avInt .i64 0, avInt .i64 1], none) ∧ (lim Γ A).call (f_p_tree_Builder_Type N) [.lit (.pointer none), tyV m a b] H = some (.tup [avInt .i64 0, avInt .i64 1], none) ∧
    (lim Γ A).call (f_p_tree_Builder_Alias N) [.lit (.pointer none), alV k] H = some (.tup [], none) ∧ (lim Γ A).call (f_p_tree_Builder_Tree N) [.lit (.pointer none)] H = some (.agg [avNilS, avNilS, avNilS], none) := by
  refine ⟨?_, ?_, ?_, ?_⟩
  · apply h.term.call (by rfl)
    unfold ndV
    simp [C_p_tree_Builder_Term, pa, pb, pc, aeq_nilPP, settle, keeps]
  · apply h.type.call (by rfl)
    unfold tyV
    simp [C_p_tree_Builder_Type, pa, pb, aeq_nilPP, settle, keeps]
  · apply ha.call (by rfl)
    unfold alV
    simp [C_p_tree_Builder_Alias, aeq_nilPP, settle, keeps]
  · apply h.tree.call (by rfl)
    simp [C_p_tree_Builder_Tree, aeq_nilPP, settle, keeps, loadC]
end
end Go.Proofs.Eng
/- Trees, copied: run by the engine. -/
set_option linter.unusedVariables false
set_option linter.unusedSimpArgs false
set_option maxRecDepth 100000
namespace Go.Proofs.Eng
open Go
theorem al_row {H : Hp} {x : AV} {l : List Al} (h : RowR AlR 3 H x l) : Vw H 3 x (l.map alV) := by
  obtain ⟨xs, h1, h2, h3⟩ := h
  have : xs = l.map alV := by
    apply List.ext_getElem?
    intro i
    by_cases hi : i < xs.length
    · rw [List.getElem?_eq_getElem hi, List.getElem?_map, List.getElem?_eq_getElem (by omega)]
      have := h3 i xs[i] l[i] (List.getElem?_eq_getElem hi) (List.getElem?_eq_getElem (by omega))
      rw [this]; rfl
    · rw [List.getElem?_eq_none (by omega), List.getElem?_eq_none (by simp; omega)]
  rw [← this]; exact h1
theorem row_al {H : Hp} {x : AV} {l : List Al} (h : Vw H 3 x (l.map alV)) : RowR AlR 3 H x l :=
  ⟨_, h, by simp, fun i y n hy hn => by rw [List.getElem?_map, hn] at hy; show y = alV n; simpa using hy.symm⟩
section
variable {Γ : Sums} {A : Tab} {N : Nat → Nat}
theorem cloneA_call (h : Has Γ A (f_slices_Clone_sl_api_Alias_api_Alias N) (C_slices_Clone_sl_api_Alias_api_Alias N)) {H : Hp} {x : AV} {l : List Al} (hx : RowR AlR 3 H x l) (hl : l.length < 2 ^ 30) :
    ∃ c g, (lim Γ A).call (f_slices_Clone_sl_api_Alias_api_Alias N) [x] H = some (c, g) ∧ RowR AlR 3 (g.getD H) c l ∧ Mut H (g.getD H) [] := by
  have hv := al_row hx
  obtain ⟨R, hR⟩ : ∃ R : AV × Option Hp → Prop, R = fun r => RowR AlR 3 (r.2.getD H) r.1 l ∧ Mut H (r.2.getD H) [] := ⟨_, rfl⟩
  suffices ∃ r, (lim Γ A).call (f_slices_Clone_sl_api_Alias_api_Alias N) [x] H = some r ∧ R r by
    obtain ⟨⟨y, g⟩, e, hr⟩ := this
    rw [hR] at hr
    exact ⟨y, g, e, hr⟩
  have live : aeq .pslice x (.lit (.slice none 0 0)) = some false → ∃ r, (lim Γ A).call (f_slices_Clone_sl_api_Alias_api_Alias N) [x] H = some r ∧ R r := by
    intro he
    apply h.callP (by rfl)
    have hE := (hv.dd none).keep (H' := halloc { l := H.l, d := none } (.arr 3 [] (t_api_Alias N))) (fun id hid => by simp [hget_halloc, Nat.ne_of_lt hid])
    have hE' := hE.elems
    have ha : appendOn (halloc { l := H.l, d := none } (.arr 3 [] (t_api_Alias N))) (t_api_Alias N) 3 32 (.ra 3 H.l.length 0 0) (l.map alV) = some (.ra 3 (H.l.length + 1) 0 l.length, some (halloc (hset (halloc { l := H.l, d := none } (.arr 3 [] (t_api_Alias N))) H.l.length none) (.arr 3 (l.map alV) (t_api_Alias N)))) := by
      have hr : l.length * 32 ≤ roomMax := by unfold roomMax; omega
      have hq := appendOn_ra (H := halloc { l := H.l, d := none } (.arr 3 [] (t_api_Alias N))) (e := t_api_Alias N) (sz := 3) (bytes := 32) (id := H.l.length) (es := []) (ys := l.map alV) (by simp) (by simpa using hr) (by simp [alV])
      simpa using hq
    have hm : Mut { l := H.l, d := none } (halloc (hset (halloc { l := H.l, d := none } (.arr 3 [] (t_api_Alias N))) H.l.length none) (.arr 3 (l.map alV) (t_api_Alias N))) [] := (((Mut.refl _ []).alloc _).set (.inr (Nat.le_refl _))).alloc _
    have hs := settle_some (H := H) (H' := halloc (hset (halloc { l := H.l, d := none } (.arr 3 [] (t_api_Alias N))) H.l.length none) (.arr 3 (l.map alV) (t_api_Alias N))) (v := .ra 3 (H.l.length + 1) 0 l.length) (by simp [AV.under])
    simp [C_slices_Clone_sl_api_Alias_api_Alias, fillA, repl, setFrom, chunk, he, hE', ha, -halloc_d, -hset_d]
    rw [hs, hR]
    refine ⟨row_al (.inr ⟨H.l.length + 1, 0, t_api_Alias N, l.map alV, by simp, ?_, by omega, List.take_of_length_le (by simp)⟩), hm.settled⟩
    simp only [Option.getD_some]
    rw [hget_l]
    simp
  rcases hv with (⟨rfl, hb⟩ | rfl) | ⟨id, off, e, all, rfl, h1⟩
  · have e := cloneA_nil h H
    refine ⟨_, e, ?_⟩
    rw [hR]
    exact ⟨hx, Mut.refl _ _⟩
  · exact live aeq_sl
  · exact live aeq_ra
end
end Go.Proofs.Eng
/- Trees, copied: a round of each loop. -/
set_option linter.unusedVariables false
set_option linter.unusedSimpArgs false
set_option maxRecDepth 100000
namespace Go.Proofs.Eng
open Go
section
variable {Γ : Sums} {A : Tab} {N : Nat → Nat}
/-- A copy under way: out's cell q, in a heap that began as B. -/
structure Cp (N : Nat → Nat) (B : Hp) (q : Nat) (H : Hp) (sn st sa : AV) (nd : List Nd) (ty : List Ty) (al : List Al) : Prop where
  cell : hget H q = some (.cells [sn, st, sa] (t_api_Tree N))
  nds : BRow NdR H B.l.length (t_api_Node N) 8 sn nd
  tys : BRow TyR H B.l.length (t_api_TypeNode N) 6 st ty
  als : RowR AlR 3 H sa al
  mt : Mut { l := B.l, d := none } H []
  q0 : B.l.length ≤ q
theorem clone_round1 (h : TreeB Γ A N) {B H : Hp} {q b0 b1 : Nat} {sn st sa a b c : AV} {t : Tr} {i : Nat} {al : List Al} (hc : Cp N B q H sn st sa (t.nodes.take i) [] al) (ha : RowR NdR 8 B a t.nodes) (ok : ∀ n ∈ t.nodes, n.ok) (hl : t.nodes.length < 2 ^ 30) (hi : i < t.nodes.length)
    {ρ : Rho} {QQ : AX → Rho → Hp → Prop} (r3 : ρ 3 = .ptr q 0) (r13 : ρ 13 = a) (r14 : ρ 14 = avInt .i64 (t.nodes.length : Nat)) (r15 : ρ 15 = avInt .i64 (i : Nat))
    (hQ : ∀ (ρ' : Rho) (G : Hp) (sn' : AV), Cp N B q G sn' st sa (t.nodes.take (i + 1)) [] al → (∀ id cs tt, hget H id = some (.cells cs tt) → id ≠ q → hget G id = some (.cells cs tt)) → ρ' 1 = ρ 1 → ρ' 2 = ρ 2 → ρ' 3 = ρ 3 → ρ' 13 = ρ 13 → ρ' 14 = ρ 14 → ρ' 15 = avInt .i64 ((i + 1 : Nat) : Int) → QQ .nrm ρ' G) :
    wp (lim Γ A) none (L_tree_Clone_1 N) ρ H QQ := by
  obtain ⟨cell, nds, tys, als, hmut, hq0⟩ := hc
  have hBl := hmut.len
  obtain ⟨xs, x1, x2, x3⟩ := id ha
  obtain ⟨n, hn⟩ : ∃ n, t.nodes[i]? = some n := ⟨_, List.getElem?_eq_getElem hi⟩
  obtain ⟨na, nb, nc, e0, va, vb, vc⟩ := x3 i xs[i] n (List.getElem?_eq_getElem (by omega)) hn
  have hx : xs[i]? = some (ndV n na nb nc) := by rw [List.getElem?_eq_getElem (by omega), e0]
  have kB : Keep B H := fun id hid => hmut.get (i := id) hid (by simp)
  have pa := va.one
  have pb := vb.one
  have pc := vc.one
  obtain ⟨p, p1, p2⟩ := (kB.vw x1).ats (k := .i64) (ys := [avInt .i64 n.kind, avInt .i64 n.pos, avStr n.name, avInt .i64 n.int, avInt .u64 n.bits, na, nb, nc]) hx rfl (by simp [pa, pb, pc])
  obtain ⟨Hc, hHc⟩ : ∃ Hc, Hc = hset (halloc H (.cells [.lit (.int .i64 0), .lit (.int .i64 0), .lit (.string (mkS [])), .lit (.int .i64 0), .lit (.int .u64 0), .lit (.slice none 0 0), .lit (.slice none 0 0), .lit (.slice none 0 0)] (t_api_Node N))) H.l.length (some (.cells [avInt .i64 n.kind, avInt .i64 n.pos, avStr n.name, avInt .i64 n.int, avInt .u64 n.bits, na, nb, nc] (t_api_Node N))) := ⟨_, rfl⟩
  have hHc' := hHc.symm
  have kHc : ∀ id o, hget H id = some o → hget Hc id = some o := fun id o ho => by
    rw [hHc, hget_hset, if_neg (Nat.ne_of_lt (hget_lt ho)), hget_halloc, if_neg (Nat.ne_of_lt (hget_lt ho))]; exact ho
  have hMc : Mut { l := B.l, d := none } Hc [] := by rw [hHc]; exact (hmut.alloc _).set (.inr (by simpa using hBl))
  have fc : hget Hc H.l.length = some (.cells [avInt .i64 n.kind, avInt .i64 n.pos, avStr n.name, avInt .i64 n.int, avInt .u64 n.bits, na, nb, nc] (t_api_Node N)) := by rw [hHc, hget_hset, if_pos rfl]; simp
  have fq : hget Hc q = some (.cells [sn, st, sa] (t_api_Tree N)) := kHc q _ cell
  have kBc : Keep B Hc := fun id hid => hMc.get (i := id) hid (by simp)
  have hx' : NdR { l := Hc.l, d := none } (ndV n na nb nc) n := ⟨na, nb, nc, rfl, (kBc.vw va).of_l rfl, (kBc.vw vb).of_l rfl, (kBc.vw vc).of_l rfl⟩
  obtain ⟨y, g1, e1, y1, y2⟩ := cloneTerm_call h hx' (ok n (List.mem_of_getElem? hn))
  have hM1 := nxt_mut (H := Hc) y2
  obtain ⟨N1, hN1⟩ : ∃ N1, N1 = nxt Hc g1 := ⟨_, rfl⟩
  rw [← hN1] at hM1
  have yN : NdR N1 y n := y1.keepA fun id es e ho => by
    rw [hN1]
    unfold hget at ho ⊢
    rw [nxt_l]; exact ho
  have b1' : ∀ (Hx : Hp) (Q : AV → Hp → Prop) (m : Mk Q) (m' : Mk Hx), Hx = Hc → bindH1 (some (y, g1)) Hx Q m m' = Q y N1 := by
    rintro Hx Q m m' rfl
    rw [bindH1_nxt (nxt_keeps y2), hN1]
  obtain ⟨a', b', c', rfl, wa, wb, wc⟩ := id yN
  have qa := wa.one
  have qb := wb.one
  have qc := wc.one
  have kN1 : ∀ id o, hget H id = some o → hget N1 id = some o := fun id o ho => hM1.get' (kHc id o ho) (by simp)
  have hMN : Mut { l := B.l, d := none } N1 [] := hMc.trans hM1 (by simp)
  have nds' : BRow NdR N1 B.l.length (t_api_Node N) 8 sn (t.nodes.take i) := nds.keepA (fun _ _ h => h.keepA fun id es e => kN1 id _) (fun id es e => kN1 id _)
  have tys' : BRow TyR N1 B.l.length (t_api_TypeNode N) 6 st [] := tys.keepA (fun _ _ h => h.keepA fun id es e => kN1 id _) (fun id es e => kN1 id _)
  have htl : (t.nodes.take i).length = i := by simp; omega
  have hlN := hMN.len
  obtain ⟨v, G, s1, s2, s3, s4, s5, s6, s7, s8, s9⟩ := nds'.push (bytes := 120) (y := ndV n a' b' c') (a := n) (by simp) (by simpa using hlN) (by simp [ndV, qa, qb, qc]) (by rw [htl]; unfold roomMax; omega) yN (fun G x n hq k => hq.keepA k)
  have gq : hget G q = some (.cells [sn, st, sa] (t_api_Tree N)) := s8 q _ (kN1 q _ cell) (by simp)
  have hlG := hget_lt gq
  have htake : t.nodes.take i ++ [n] = t.nodes.take (i + 1) := by rw [List.take_add_one, hn]; rfl
  rw [htake] at s5
  have kG : ∀ sz id es e, hget G id = some (.arr sz es e) → hget (hset G q (some (.cells [v, st, sa] (t_api_Tree N)))) id = some (.arr sz es e) := fun sz id es e ho => by
    rw [hget_hset, if_neg]
    · exact ho
    · rintro rfl; rw [gq] at ho; cases ho
  have kN : ∀ sz id es e, sz ≠ 8 → hget N1 id = some (.arr sz es e) → hget (hset G q (some (.cells [v, st, sa] (t_api_Tree N)))) id = some (.arr sz es e) := fun sz id es e hs ho => kG sz id es e (s8 id _ ho (by simp [hs]))
  have hcp : Cp N B q (hset G q (some (.cells [v, st, sa] (t_api_Tree N)))) v st sa (t.nodes.take (i + 1)) [] al := by
    refine ⟨by rw [hget_hset, if_pos rfl, if_pos hlG], s5.keepA (fun _ _ h => h.keepA fun id es e => kG 1 id es e) (kG 8), tys'.keepA (fun _ _ h => h.keepA fun id es e => kN 1 id es e (by simp)) (fun id es e => kN 6 id es e (by simp)), ?_, (s9 _ hMN (Nat.le_refl _)).set (.inr hq0), hq0⟩
    obtain ⟨zs, z1, z2, z3⟩ := als
    exact ⟨zs, z1.keepA fun id es e ho => kN 3 id es e (by simp) (kN1 id _ ho), z2, z3⟩
  have hcell : ∀ id cs tt, hget H id = some (.cells cs tt) → id ≠ q → hget (hset G q (some (.cells [v, st, sa] (t_api_Tree N)))) id = some (.cells cs tt) := fun id cs tt ho hne => by
    rw [hget_hset, if_neg hne]
    exact s8 id _ (kN1 id _ ho) (by simp)
  have hlt' : (i : Int) < t.nodes.length := by omega
  have hw : IntKind.wrap .i64 ((i : Int) + 1) = ((i + 1 : Nat) : Int) := by rw [wrap64 (by omega) (by omega)]; omega
  unfold ndV at e1 s1
  simp only [ndV] at b1'
  simp [L_tree_Clone_1, r3, r13, r14, r15, hlt', p1, p2, pa, pb, pc, hHc', fc, fq, e1, b1', qa, qb, qc, loadC, fillA, repl, setFrom, chunk, asElems, s1, s2, s3, gq, hlG, hw, -hset_d, -halloc_d, -Int.natCast_add]
  exact hQ _ _ _ hcp hcell (by simp [upd_at]) (by simp [upd_at]) (by simp [upd_at, r3]) (by simp [upd_at, r13]) (by simp [upd_at, r14]) (by simp [upd_at])
theorem clone_round2 (h : TreeB Γ A N) {B H : Hp} {q b0 b1 : Nat} {sn st sa a b c : AV} {t : Tr} {i : Nat} {nd : List Nd} {al : List Al} (hc : Cp N B q H sn st sa nd (t.types.take i) al) (ha : RowR TyR 6 B a t.types) (ok : ∀ n ∈ t.types, n.ok) (hl : t.types.length < 2 ^ 30) (hi : i < t.types.length)
    {ρ : Rho} {QQ : AX → Rho → Hp → Prop} (r3 : ρ 3 = .ptr q 0) (r13 : ρ 28 = a) (r14 : ρ 29 = avInt .i64 (t.types.length : Nat)) (r15 : ρ 30 = avInt .i64 (i : Nat))
    (hQ : ∀ (ρ' : Rho) (G : Hp) (st' : AV), Cp N B q G sn st' sa nd (t.types.take (i + 1)) al → (∀ id cs tt, hget H id = some (.cells cs tt) → id ≠ q → hget G id = some (.cells cs tt)) → ρ' 1 = ρ 1 → ρ' 2 = ρ 2 → ρ' 3 = ρ 3 → ρ' 28 = ρ 28 → ρ' 29 = ρ 29 → ρ' 30 = avInt .i64 ((i + 1 : Nat) : Int) → QQ .nrm ρ' G) :
    wp (lim Γ A) none (L_tree_Clone_2 N) ρ H QQ := by
  obtain ⟨cell, nds, tys, als, hmut, hq0⟩ := hc
  have hBl := hmut.len
  obtain ⟨xs, x1, x2, x3⟩ := id ha
  obtain ⟨n, hn⟩ : ∃ n, t.types[i]? = some n := ⟨_, List.getElem?_eq_getElem hi⟩
  obtain ⟨na, nb, e0, va, vb⟩ := x3 i xs[i] n (List.getElem?_eq_getElem (by omega)) hn
  have hx : xs[i]? = some (tyV n na nb) := by rw [List.getElem?_eq_getElem (by omega), e0]
  have kB : Keep B H := fun id hid => hmut.get (i := id) hid (by simp)
  have pa := va.one
  have pb := vb.one
  obtain ⟨p, p1, p2⟩ := (kB.vw x1).ats (k := .i64) (ys := [avInt .i64 n.kind, avInt .i64 n.pos, avStr n.name, na, nb, avBool n.opn]) hx rfl (by simp [pa, pb])
  obtain ⟨Hc, hHc⟩ : ∃ Hc, Hc = hset (halloc H (.cells [.lit (.int .i64 0), .lit (.int .i64 0), .lit (.string (mkS [])), .lit (.slice none 0 0), .lit (.slice none 0 0), .lit (.bool false)] (t_api_TypeNode N))) H.l.length (some (.cells [avInt .i64 n.kind, avInt .i64 n.pos, avStr n.name, na, nb, avBool n.opn] (t_api_TypeNode N))) := ⟨_, rfl⟩
  have hHc' := hHc.symm
  have kHc : ∀ id o, hget H id = some o → hget Hc id = some o := fun id o ho => by
    rw [hHc, hget_hset, if_neg (Nat.ne_of_lt (hget_lt ho)), hget_halloc, if_neg (Nat.ne_of_lt (hget_lt ho))]; exact ho
  have hMc : Mut { l := B.l, d := none } Hc [] := by rw [hHc]; exact (hmut.alloc _).set (.inr (by simpa using hBl))
  have fc : hget Hc H.l.length = some (.cells [avInt .i64 n.kind, avInt .i64 n.pos, avStr n.name, na, nb, avBool n.opn] (t_api_TypeNode N)) := by rw [hHc, hget_hset, if_pos rfl]; simp
  have fq : hget Hc q = some (.cells [sn, st, sa] (t_api_Tree N)) := kHc q _ cell
  have kBc : Keep B Hc := fun id hid => hMc.get (i := id) hid (by simp)
  have hx' : TyR { l := Hc.l, d := none } (tyV n na nb) n := ⟨na, nb, rfl, (kBc.vw va).of_l rfl, (kBc.vw vb).of_l rfl⟩
  obtain ⟨y, g1, e1, y1, y2⟩ := cloneType_call h hx' (ok n (List.mem_of_getElem? hn))
  have hM1 := nxt_mut (H := Hc) y2
  obtain ⟨N1, hN1⟩ : ∃ N1, N1 = nxt Hc g1 := ⟨_, rfl⟩
  rw [← hN1] at hM1
  have yN : TyR N1 y n := y1.keepA fun id es e ho => by
    rw [hN1]
    unfold hget at ho ⊢
    rw [nxt_l]; exact ho
  have b1' : ∀ (Hx : Hp) (Q : AV → Hp → Prop) (m : Mk Q) (m' : Mk Hx), Hx = Hc → bindH1 (some (y, g1)) Hx Q m m' = Q y N1 := by
    rintro Hx Q m m' rfl
    rw [bindH1_nxt (nxt_keeps y2), hN1]
  obtain ⟨a', b', rfl, wa, wb⟩ := id yN
  have qa := wa.one
  have qb := wb.one
  have kN1 : ∀ id o, hget H id = some o → hget N1 id = some o := fun id o ho => hM1.get' (kHc id o ho) (by simp)
  have hMN : Mut { l := B.l, d := none } N1 [] := hMc.trans hM1 (by simp)
  have nds' : BRow NdR N1 B.l.length (t_api_Node N) 8 sn nd := nds.keepA (fun _ _ h => h.keepA fun id es e => kN1 id _) (fun id es e => kN1 id _)
  have tys' : BRow TyR N1 B.l.length (t_api_TypeNode N) 6 st (t.types.take i) := tys.keepA (fun _ _ h => h.keepA fun id es e => kN1 id _) (fun id es e => kN1 id _)
  have htl : (t.types.take i).length = i := by simp; omega
  have hlN := hMN.len
  obtain ⟨v, G, s1, s2, s3, s4, s5, s6, s7, s8, s9⟩ := tys'.push (bytes := 88) (y := tyV n a' b') (a := n) (by simp) (by simpa using hlN) (by simp [tyV, qa, qb]) (by rw [htl]; unfold roomMax; omega) yN (fun G x n hq k => hq.keepA k)
  have gq : hget G q = some (.cells [sn, st, sa] (t_api_Tree N)) := s8 q _ (kN1 q _ cell) (by simp)
  have hlG := hget_lt gq
  have htake : t.types.take i ++ [n] = t.types.take (i + 1) := by rw [List.take_add_one, hn]; rfl
  rw [htake] at s5
  have kG : ∀ sz id es e, hget G id = some (.arr sz es e) → hget (hset G q (some (.cells [sn, v, sa] (t_api_Tree N)))) id = some (.arr sz es e) := fun sz id es e ho => by
    rw [hget_hset, if_neg]
    · exact ho
    · rintro rfl; rw [gq] at ho; cases ho
  have kN : ∀ sz id es e, sz ≠ 6 → hget N1 id = some (.arr sz es e) → hget (hset G q (some (.cells [sn, v, sa] (t_api_Tree N)))) id = some (.arr sz es e) := fun sz id es e hs ho => kG sz id es e (s8 id _ ho (by simp [hs]))
  have hcp : Cp N B q (hset G q (some (.cells [sn, v, sa] (t_api_Tree N)))) sn v sa nd (t.types.take (i + 1)) al := by
    refine ⟨by rw [hget_hset, if_pos rfl, if_pos hlG], nds'.keepA (fun _ _ h => h.keepA fun id es e => kN 1 id es e (by simp)) (fun id es e => kN 8 id es e (by simp)), s5.keepA (fun _ _ h => h.keepA fun id es e => kG 1 id es e) (kG 6), ?_, (s9 _ hMN (Nat.le_refl _)).set (.inr hq0), hq0⟩
    obtain ⟨zs, z1, z2, z3⟩ := als
    exact ⟨zs, z1.keepA fun id es e ho => kN 3 id es e (by simp) (kN1 id _ ho), z2, z3⟩
  have hcell : ∀ id cs tt, hget H id = some (.cells cs tt) → id ≠ q → hget (hset G q (some (.cells [sn, v, sa] (t_api_Tree N)))) id = some (.cells cs tt) := fun id cs tt ho hne => by
    rw [hget_hset, if_neg hne]
    exact s8 id _ (kN1 id _ ho) (by simp)
  have hlt' : (i : Int) < t.types.length := by omega
  have hw : IntKind.wrap .i64 ((i : Int) + 1) = ((i + 1 : Nat) : Int) := by rw [wrap64 (by omega) (by omega)]; omega
  unfold tyV at e1 s1
  simp only [tyV] at b1'
  simp [L_tree_Clone_2, r3, r13, r14, r15, hlt', p1, p2, pa, pb, hHc', fc, fq, e1, b1', qa, qb, loadC, fillA, repl, setFrom, chunk, asElems, s1, s2, s3, gq, hlG, hw, -hset_d, -halloc_d, -Int.natCast_add]
  exact hQ _ _ _ hcp hcell (by simp [upd_at]) (by simp [upd_at]) (by simp [upd_at, r3]) (by simp [upd_at, r13]) (by simp [upd_at, r14]) (by simp [upd_at])
end
end Go.Proofs.Eng
/- Trees, copied: the whole. -/
set_option linter.unusedVariables false
set_option linter.unusedSimpArgs false
set_option maxRecDepth 100000
namespace Go.Proofs.Eng
open Go
theorem BRow.toRow {α : Type} {Q : Hp → AV → α → Prop} {H : Hp} {n0 : Nat} {e : TypeId} {sz : Nat} {x : AV} {l : List α} (h : BRow Q H n0 e sz x l) : RowR Q sz H x l := by
  obtain ⟨⟨xs, h1, h2, h3, h4⟩, _⟩ := h
  refine ⟨xs, ?_, h2, h3⟩
  rcases h1 with ⟨rfl, rfl⟩ | ⟨id, rfl, h⟩
  · exact .inl (.inl ⟨rfl, rfl⟩)
  · exact .inr ⟨id, 0, e, xs, rfl, h, by omega, List.take_of_length_le (by simp)⟩
/-- A row that is older than itself is nil. -/
theorem BRow.young {α : Type} {Q : Hp → AV → α → Prop} {H : Hp} {n0 : Nat} {e : TypeId} {sz : Nat} {x : AV} {l : List α} (h : BRow Q H n0 e sz x l) (hu : x.under n0 = true) : x = avNilS ∧ l = [] := by
  obtain ⟨⟨xs, h1, h2, h3, h4⟩, h5⟩ := h
  rcases h1 with ⟨rfl, rfl⟩ | ⟨id, rfl, h⟩
  · exact ⟨rfl, List.eq_nil_of_length_eq_zero (by simpa using h2.symm)⟩
  · have := h5 id rfl
    simp [AV.under] at hu
    omega
theorem RowR.nil {α : Type} {Q : Hp → AV → α → Prop} {H : Hp} {sz : Nat} : RowR Q sz H avNilS ([] : List α) := ⟨[], .inl (.inl ⟨rfl, rfl⟩), rfl, fun i y n h => by simp at h⟩
theorem BRow.youngs {α : Type} {Q : Hp → AV → α → Prop} {H : Hp} {n0 : Nat} {e : TypeId} {sz : Nat} {x : AV} {l : List α} (h : BRow Q H n0 e sz x l) : ∀ m, m ≤ n0 → x.under m = true → x = avNilS ∧ l = [] := by
  intro m hm hu
  obtain ⟨⟨xs, h1, h2, h3, h4⟩, h5⟩ := h
  rcases h1 with ⟨rfl, rfl⟩ | ⟨id, rfl, h⟩
  · exact ⟨rfl, List.eq_nil_of_length_eq_zero (by simpa using h2.symm)⟩
  · have := h5 id rfl
    simp [AV.under] at hu
    omega
theorem settle_tree {H H' : Hp} {sn st sa y : AV} {t : Tr} {g : Option Hp} (hm : Mut { l := H.l, d := none } H' []) (e : settle H (.agg [sn, st, sa]) H' = (y, g)) (h1 : RowR NdR 8 H' sn t.nodes) (h2 : RowR TyR 6 H' st t.types) (w1 : sn.under H.l.length = true → sn = avNilS ∧ t.nodes = []) (w2 : st.under H.l.length = true → st = avNilS ∧ t.types = []) (h3 : RowR AlR 3 H' sa t.als) :
    y = .agg [sn, st, sa] ∧ TrR (g.getD H) y t ∧ Mut H (g.getD H) [] := by
  obtain ⟨rfl, hu⟩ := settle_under e
  refine ⟨rfl, ?_, settle_mut0 hm e⟩
  cases g with
  | none =>
    have := hu rfl
    simp [AV.under, AV.unders] at this
    obtain ⟨u1, u2, u3⟩ := this
    obtain ⟨rfl, hn⟩ := w1 u1
    obtain ⟨rfl, hy⟩ := w2 u2
    refine ⟨_, _, _, rfl, by rw [hn]; exact RowR.nil, by rw [hy]; exact RowR.nil, ?_⟩
    obtain ⟨zs, z1, z2, z3⟩ := h3
    refine ⟨zs, ?_, z2, z3⟩
    rcases z1 with z1 | ⟨id, off, tt, all, rfl, k1, k2⟩
    · exact .inl z1
    · refine .inr ⟨id, off, tt, all, rfl, ?_, k2⟩
      have hid : id < H.l.length := by simpa [AV.under] using u3
      rw [← k1]
      exact (hm.get (i := id) hid (by simp)).symm
  | some g' =>
    unfold settle at e
    split at e
    · simp at e
    · simp only [Prod.mk.injEq, true_and, Option.some.injEq] at e
      subst e
      exact (show TrR H' _ t from ⟨_, _, _, rfl, h1, h2, h3⟩).more fun id o ho => ho
section
variable {Γ : Sums} {A : Tab} {N : Nat → Nat}
theorem CloneT_call (h : TreeB Γ A N) {H : Hp} {x : AV} {t : Tr} (hx : TrR H x t) (ok : t.ok) (hb : t.nodes.length < 2 ^ 30 ∧ t.types.length < 2 ^ 30 ∧ t.als.length < 2 ^ 30) : ∃ y g, (lim Γ A).call (f_tree_Clone N) [x] H = some (y, g) ∧ TrR (g.getD H) y t ∧ Mut H (g.getD H) [] ∧ ∃ a b c, y = .agg [a, b, c] ∧ (∀ m, m ≤ H.l.length → a.under m = true → a = avNilS ∧ t.nodes = []) ∧ (∀ m, m ≤ H.l.length → b.under m = true → b = avNilS ∧ t.types = []) := by
  obtain ⟨a, b, c, rfl, ra, rb, rc⟩ := hx
  obtain ⟨R, hR⟩ : ∃ R : AV × Option Hp → Prop, R = fun r => TrR (r.2.getD H) r.1 t ∧ Mut H (r.2.getD H) [] ∧ ∃ a b c, r.1 = .agg [a, b, c] ∧ (∀ m, m ≤ H.l.length → a.under m = true → a = avNilS ∧ t.nodes = []) ∧ (∀ m, m ≤ H.l.length → b.under m = true → b = avNilS ∧ t.types = []) := ⟨_, rfl⟩
  suffices ∃ r, (lim Γ A).call (f_tree_Clone N) [.agg [a, b, c]] H = some r ∧ R r by
    obtain ⟨⟨y, g⟩, e, hr⟩ := this
    rw [hR] at hr
    exact ⟨y, g, e, hr⟩
  have pa := ra.one
  have pb := rb.one
  have pc := rc.one
  have la := ra.len
  have lb := rb.len
  obtain ⟨Hb, hHb⟩ : ∃ Hb, Hb = halloc (halloc { l := H.l, d := none } (.cells [a, b, c] (t_api_Tree N))) (.cells [avNilS, avNilS, avNilS] (t_api_Tree N)) := ⟨_, rfl⟩
  have hMb : Mut { l := H.l, d := none } Hb [] := by rw [hHb]; exact ((Mut.refl _ _).alloc _).alloc _
  have kb : Keep H Hb := fun id hid => hMb.get hid (by simp)
  have hlb : Hb.l.length = H.l.length + 2 := by rw [hHb]; simp
  have f1 : hget Hb H.l.length = some (.cells [a, b, c] (t_api_Tree N)) := by rw [hHb]; simp
  have f2 : hget Hb (H.l.length + 1) = some (.cells [avNilS, avNilS, avNilS] (t_api_Tree N)) := by rw [hHb]; simp
  have hHb' := hHb.symm
  obtain ⟨c', g1, e1, c1, c2⟩ := cloneA_call h.ca (H := Hb) (kb.row (fun _ _ h => h) rc) hb.2.2
  obtain ⟨N1, hN1⟩ : ∃ N1, N1 = g1.getD Hb := ⟨_, rfl⟩
  have hN1' := hN1.symm
  rw [← hN1] at c1 c2
  have pc' := c1.one
  have qc' : c'.cells = [c'] ∧ c'.good = true := by obtain ⟨zs, z1, _⟩ := c1; exact Vw.cg z1
  obtain ⟨H0, hH0⟩ : ∃ H0, H0 = hset (halloc N1 (.cells [avNilS, avNilS, avNilS] (t_api_Tree N))) N1.l.length (some (.cells [avNilS, avNilS, c'] (t_api_Tree N))) := ⟨_, rfl⟩
  have hH0' := hH0.symm
  have hMN : Mut { l := H.l, d := none } N1 [] := hMb.trans c2 (by simp)
  have hlN := hMN.len
  have hM0 : Mut { l := H.l, d := none } H0 [] := by rw [hH0]; exact (hMN.alloc _).set (.inr (by simpa using hlN))
  have kN : ∀ id o, hget N1 id = some o → hget H0 id = some o := fun id o ho => by
    rw [hH0, hget_hset, if_neg (Nat.ne_of_lt (hget_lt ho)), hget_halloc, if_neg (Nat.ne_of_lt (hget_lt ho))]; exact ho
  have t1 : hget H0 H.l.length = some (.cells [a, b, c] (t_api_Tree N)) := kN _ _ (c2.get' f1 (by simp))
  have t2 : hget H0 (H.l.length + 1) = some (.cells [avNilS, avNilS, avNilS] (t_api_Tree N)) := kN _ _ (c2.get' f2 (by simp))
  have t3 : hget H0 N1.l.length = some (.cells [avNilS, avNilS, c'] (t_api_Tree N)) := by rw [hH0, hget_hset, if_pos rfl]; simp
  have hNb := c2.len
  have cp0 : Cp N H N1.l.length H0 avNilS avNilS c' (t.nodes.take 0) [] t.als := by
    refine ⟨t3, ⟨⟨[], .inl ⟨rfl, rfl⟩, rfl, fun i y n h => by simp at h, rfl⟩, fun id hk => by cases hk⟩, ⟨⟨[], .inl ⟨rfl, rfl⟩, rfl, fun i y n h => by simp at h, rfl⟩, fun id hk => by cases hk⟩, ?_, hM0, by simpa using hlN⟩
    obtain ⟨zs, z1, z2, z3⟩ := c1
    exact ⟨zs, z1.keepA fun id es e => kN id _, z2, z3⟩
  apply h.clone.callP (by rfl)
  simp only [avNilS] at hHb' hH0' f2
  have la' := la
  simp [C_tree_Clone, pa, pb, pc, hHb', f1, loadC, e1, bindH_opt, hN1', pc', qc', setFrom, hH0', t1, la, -halloc_d, -hset_d]
  refine wp_round (n := t.nodes.length) (fun m ρ H' => ∃ (i : Nat) (sn : AV), ρ 1 = .ptr H.l.length 0 ∧ ρ 2 = .ptr (H.l.length + 1) 0 ∧ ρ 3 = .ptr N1.l.length 0 ∧ ρ 13 = a ∧ ρ 14 = avInt .i64 (t.nodes.length : Nat) ∧ ρ 15 = avInt .i64 (i : Nat) ∧ i ≤ t.nodes.length ∧ Cp N H N1.l.length H' sn avNilS c' (t.nodes.take i) [] t.als ∧ hget H' H.l.length = some (.cells [a, b, c] (t_api_Tree N)) ∧ hget H' (H.l.length + 1) = some (.cells [avNilS, avNilS, avNilS] (t_api_Tree N)) ∧ m = t.nodes.length - i) ?_ ?_
  · exact ⟨0, avNilS, rfl, rfl, rfl, rfl, rfl, rfl, by omega, cp0, t1, t2, rfl⟩
  rintro m ρ H' ⟨i, sn, r1, r2, r3, r13, r14, r15, hi, hcp, b1, b2, rfl⟩
  by_cases hlt : i < t.nodes.length
  · refine clone_round1 (b0 := 0) (b1 := 0) (b := b) (c := c) (a := a) h hcp ra ok.1 hb.1 hlt r3 r13 r14 r15 ?_
    intro ρ' G sn' k1 k2 k3 k4 k5 k6 k7 k8
    refine ⟨t.nodes.length - (i + 1), by omega, i + 1, sn', by rw [k3]; exact r1, by rw [k4]; exact r2, by rw [k5]; exact r3, by rw [k6]; exact r13, by rw [k7]; exact r14, k8, by omega, k1, k2 _ _ _ b1 (by omega), k2 _ _ _ b2 (by omega), rfl⟩
  · have hlt' : ¬ (i : Int) < t.nodes.length := by omega
    have hi2 : i = t.nodes.length := by omega
    subst hi2
    rw [List.take_length] at hcp
    simp [L_tree_Clone_1, K_tree_Clone_1, r1, r2, r3, r13, r14, r15, hlt', b1, lb, loadC]
    refine wp_round (n := t.types.length) (fun m ρ H' => ∃ (i : Nat) (st : AV), ρ 1 = .ptr H.l.length 0 ∧ ρ 2 = .ptr (H.l.length + 1) 0 ∧ ρ 3 = .ptr N1.l.length 0 ∧ ρ 28 = b ∧ ρ 29 = avInt .i64 (t.types.length : Nat) ∧ ρ 30 = avInt .i64 (i : Nat) ∧ i ≤ t.types.length ∧ Cp N H N1.l.length H' sn st c' t.nodes (t.types.take i) t.als ∧ hget H' H.l.length = some (.cells [a, b, c] (t_api_Tree N)) ∧ hget H' (H.l.length + 1) = some (.cells [avNilS, avNilS, avNilS] (t_api_Tree N)) ∧ m = t.types.length - i) ?_ ?_
    · exact ⟨0, avNilS, r1, r2, r3, rfl, rfl, rfl, by omega, hcp, b1, b2, rfl⟩
    rintro m ρ H'' ⟨i, st, r1, r2, r3, r28, r29, r30, hi, hcp, b1, b2, rfl⟩
    by_cases hlt : i < t.types.length
    · refine clone_round2 (b0 := 0) (b1 := 0) (b := b) (c := c) (a := b) h hcp rb ok.2.1 hb.2.1 hlt r3 r28 r29 r30 ?_
      intro ρ' G st' k1 k2 k3 k4 k5 k6 k7 k8
      refine ⟨t.types.length - (i + 1), by omega, i + 1, st', by rw [k3]; exact r1, by rw [k4]; exact r2, by rw [k5]; exact r3, by rw [k6]; exact r28, by rw [k7]; exact r29, k8, by omega, k1, k2 _ _ _ b1 (by omega), k2 _ _ _ b2 (by omega), rfl⟩
    · have hlt' : ¬ (i : Int) < t.types.length := by omega
      have hi2 : i = t.types.length := by omega
      subst hi2
      rw [List.take_length] at hcp
      have g1 := hcp.cell
      have p1 := hcp.nds.toRow.one
      have p2 := hcp.tys.toRow.one
      have p3 := hcp.als.one
      have hl2 := hget_lt b2
      simp [L_tree_Clone_2, K_tree_Clone_2, r1, r2, r3, r28, r29, r30, hlt', g1, b2, p1, p2, p3, hl2, loadC, -halloc_d, -hset_d]
      have kS : ∀ sz id es e, hget H'' id = some (.arr sz es e) → hget (hset H'' (H.l.length + 1) (some (.cells [sn, st, c'] (t_api_Tree N)))) id = some (.arr sz es e) := fun sz id es e ho => by
        rw [hget_hset, if_neg]
        · exact ho
        · rintro rfl; rw [b2] at ho; cases ho
      rcases es : settle H (.agg [sn, st, c']) (hset H'' (H.l.length + 1) (some (.cells [sn, st, c'] (t_api_Tree N)))) with ⟨y, g⟩
      obtain ⟨zs, z1, z2, z3⟩ := hcp.als
      obtain ⟨rfl, q1, q2⟩ := settle_tree (t := t) (hcp.mt.set (.inr (by simp))) es (hcp.nds.keepA (fun _ _ h => h.keepA fun id es e => kS 1 id es e) (kS 8)).toRow (hcp.tys.keepA (fun _ _ h => h.keepA fun id es e => kS 1 id es e) (kS 6)).toRow hcp.nds.young hcp.tys.young ⟨zs, z1.keepA (kS 3), z2, z3⟩
      rw [hR]
      exact ⟨q1, q2, sn, st, c', rfl, hcp.nds.youngs, hcp.tys.youngs⟩
end
end Go.Proofs.Eng
/- A builder's tree: run by the engine. -/
set_option linter.unusedVariables false
set_option linter.unusedSimpArgs false
set_option maxRecDepth 100000
namespace Go.Proofs.Eng
open Go
section
variable {Γ : Sums} {A : Tab} {N : Nat → Nat}
theorem BTree_call (h : TreeB Γ A N) {n0 p : Nat} {H : Hp} {t : Tr} (hb : Bd N n0 H p t) (ok : t.ok) (hl : t.nodes.length < 2 ^ 30 ∧ t.types.length < 2 ^ 30 ∧ t.als.length < 2 ^ 30) :
    ∃ y g, (lim Γ A).call (f_p_tree_Builder_Tree N) [.ptr p 0] H = some (y, g) ∧ TrR (g.getD H) y t ∧ Mut H (g.getD H) [] := by
  obtain ⟨R, hR⟩ : ∃ R : AV × Option Hp → Prop, R = fun r => TrR (r.2.getD H) r.1 t ∧ Mut H (r.2.getD H) [] := ⟨_, rfl⟩
  suffices ∃ r, (lim Γ A).call (f_p_tree_Builder_Tree N) [.ptr p 0] H = some r ∧ R r by
    obtain ⟨⟨y, g⟩, e, hr⟩ := this
    rw [hR] at hr
    exact ⟨y, g, e, hr⟩
  obtain ⟨⟨sn, st, sa, hp, r1, r2, r3⟩, hp0⟩ := hb
  have hlt := hget_lt hp
  obtain ⟨Hb, hHb⟩ : ∃ Hb, Hb = halloc { l := H.l, d := none } (.cells [avNilS, avNilS, avNilS] (t_api_Tree N)) := ⟨_, rfl⟩
  have hHb' := hHb.symm
  have hMb : Mut { l := H.l, d := none } Hb [] := by rw [hHb]; exact (Mut.refl _ _).alloc _
  have kb : Keep H Hb := fun id hid => hMb.get hid (by simp)
  have fp : hget Hb p = some (.cells [sn, st, sa] (t_tree_Builder N)) := by rw [kb p hlt]; exact hp
  have f2 : hget Hb H.l.length = some (.cells [avNilS, avNilS, avNilS] (t_api_Tree N)) := by rw [hHb]; simp
  have hx : TrR H (.agg [sn, st, sa]) t := ⟨_, _, _, rfl, r1.toRow, r2.toRow, r3.toRow⟩
  obtain ⟨y, g, e1, y1, y2, a, b, c, rfl, w1, w2⟩ := CloneT_call h (kb.tr hx) ok hl
  obtain ⟨N1, hN1⟩ : ∃ N1, N1 = g.getD Hb := ⟨_, rfl⟩
  have hN1' := hN1.symm
  rw [← hN1] at y1 y2
  obtain ⟨_, _, _, ee, ra, rb, rc⟩ := y1
  cases ee
  have pa := ra.one
  have pb := rb.one
  have pc := rc.one
  have q1 := r1.toRow.one
  have q2 := r2.toRow.one
  have q3 := r3.toRow.one
  have g2 : hget N1 H.l.length = some (.cells [avNilS, avNilS, avNilS] (t_api_Tree N)) := y2.get' f2 (by simp)
  have hl2 := hget_lt g2
  have hM : Mut { l := H.l, d := none } (hset N1 H.l.length (some (.cells [a, b, c] (t_api_Tree N)))) [] := (hMb.trans y2 (by simp)).set (.inr (Nat.le_refl _))
  apply h.tree.callP (by rfl)
  simp only [avNilS] at hHb' g2
  simp [C_p_tree_Builder_Tree, hHb', fp, loadC, q1, q2, q3, e1, bindH_opt, hN1', pa, pb, pc, g2, hl2, -halloc_d, -hset_d]
  have kS : ∀ sz id es e, hget N1 id = some (.arr sz es e) → hget (hset N1 H.l.length (some (.cells [a, b, c] (t_api_Tree N)))) id = some (.arr sz es e) := fun sz id es e ho => by
    rw [hget_hset, if_neg]
    · exact ho
    · rintro rfl; rw [g2] at ho; cases ho
  rcases es : settle H (.agg [a, b, c]) (hset N1 H.l.length (some (.cells [a, b, c] (t_api_Tree N)))) with ⟨y, g'⟩
  have kR : ∀ {α : Type} {Q : Hp → AV → α → Prop} {sz : Nat} {x : AV} {l : List α}, RowR Q sz N1 x l → (∀ x n, Q N1 x n → Q (hset N1 H.l.length (some (.cells [a, b, c] (t_api_Tree N)))) x n) → RowR Q sz (hset N1 H.l.length (some (.cells [a, b, c] (t_api_Tree N)))) x l := by
    rintro α Q sz x l ⟨zs, z1, z2, z3⟩ hq
    exact ⟨zs, z1.keepA (kS sz), z2, fun i y n h1 h2 => hq _ _ (z3 i y n h1 h2)⟩
  have hlb : Hb.l.length = H.l.length + 1 := by rw [hHb]; simp
  have ua : a.under H.l.length = true → a = avNilS ∧ t.nodes = [] := w1 _ (by omega)
  have ub : b.under H.l.length = true → b = avNilS ∧ t.types = [] := w2 _ (by omega)
  obtain ⟨rfl, q1, q2⟩ := settle_tree (t := t) hM es (kR ra fun _ _ h => h.keepA fun id es e => kS 1 id es e) (kR rb fun _ _ h => h.keepA fun id es e => kS 1 id es e) ua ub (kR rc fun _ _ h => h)
  rw [hR]
  exact ⟨q1, q2⟩
end
end Go.Proofs.Eng
/- Templates of functions, as the engine takes them; numbers of functions and types by names. Printed by tm.py. -/
set_option linter.unusedVariables false
set_option maxRecDepth 100000
namespace Go.Proofs.Eng
open Go

def L_law04_Few_2 (N : Nat → Nat) : AC :=
        .seq (
         .ops [⟨(some 46), .bin .lss (.t 45) (.t 44), none⟩]) (
        .seq (
         .cond (.t 46) (
          .skip) (
          .exit 2)) (
        .seq (
         .block 3 (
          .seq (
           .ops [⟨(some 47), .iaddr 1 (.t 43) (.t 45), none⟩, ⟨(some 48), .load none (.t 47), none⟩, ⟨(some 6), .mov (.t 48), none⟩]) (
          .seq (
           .ops [⟨(some 49), .mov (.t 6), none⟩, ⟨(some 50), .lens (.t 49), none⟩, ⟨(some 51), .bin .gtr (.t 50) (.c (.lit (.int .i64 60))), none⟩]) (
          .cond (.t 51) (
           .seq (
            .ops [⟨(some 2), .mov (.c (.lit (.bool false))), none⟩]) (
           .ret)) (
           .skip))))) (
        .ops [⟨(some 52), .bin .add (.t 45) (.c (.lit (.int .i64 1))), none⟩, ⟨(some 45), .mov (.t 52), none⟩])))
def K_law04_Few_1 (N : Nat → Nat) : AC :=
 .ops [⟨(some 53), .bin .add (.t 16) (.c (.lit (.int .i64 1))), none⟩, ⟨(some 16), .mov (.t 53), none⟩]
def L_law04_Few_1 (N : Nat → Nat) : AC :=
    .seq (
     .ops [⟨(some 17), .bin .lss (.t 16) (.t 15), none⟩]) (
    .seq (
     .cond (.t 17) (
      .skip) (
      .exit 0)) (
    .seq (
     .block 1 (
      .seq (
       .ops [⟨(some 18), .iaddr 8 (.t 14) (.t 16), none⟩, ⟨(some 19), .load (some 8) (.t 18), none⟩, ⟨(some 4), .new (t_api_Node N) (.agg [(.lit (.int .i64 0)), (.lit (.int .i64 0)), (.lit (.string (mkS []))), (.lit (.int .i64 0)), (.lit (.int .u64 0)), (.lit (.slice none 0 0)), (.lit (.slice none 0 0)), (.lit (.slice none 0 0))]), none⟩, ⟨none, .store 8 (.t 4) (.t 19), none⟩]) (
      .seq (
       .seq (
        .ops [⟨(some 20), .faddr 5 (.t 4), none⟩, ⟨(some 21), .load none (.t 20), none⟩, ⟨(some 22), .len (.t 21), none⟩, ⟨(some 23), .bin .gtr (.t 22) (.c (.lit (.int .i64 20))), none⟩, ⟨(some 24), .mov (.t 23), none⟩, ⟨(some 25), .faddr 6 (.t 4), (some (24, false))⟩, ⟨(some 26), .load none (.t 25), (some (24, false))⟩, ⟨(some 27), .len (.t 26), (some (24, false))⟩, ⟨(some 28), .bin .gtr (.t 27) (.c (.lit (.int .i64 20))), (some (24, false))⟩, ⟨(some 29), .pick (.t 24) (.c (.lit (.bool true))) (.t 28), none⟩, ⟨(some 30), .mov (.t 29), none⟩, ⟨(some 31), .faddr 7 (.t 4), (some (30, false))⟩, ⟨(some 32), .load none (.t 31), (some (30, false))⟩, ⟨(some 33), .len (.t 32), (some (30, false))⟩, ⟨(some 34), .bin .gtr (.t 33) (.c (.lit (.int .i64 20))), (some (30, false))⟩, ⟨(some 35), .pick (.t 30) (.c (.lit (.bool true))) (.t 34), none⟩, ⟨(some 36), .mov (.t 35), none⟩, ⟨(some 37), .faddr 2 (.t 4), (some (36, false))⟩, ⟨(some 38), .load none (.t 37), (some (36, false))⟩, ⟨(some 39), .lens (.t 38), (some (36, false))⟩, ⟨(some 40), .bin .gtr (.t 39) (.c (.lit (.int .i64 60))), (some (36, false))⟩, ⟨(some 41), .pick (.t 36) (.c (.lit (.bool true))) (.t 40), none⟩]) (
       .cond (.t 41) (
        .seq (
         .ops [⟨(some 2), .mov (.c (.lit (.bool false))), none⟩]) (
        .ret)) (
        .skip))) (
      .seq (
       .ops [⟨(some 42), .faddr 5 (.t 4), none⟩, ⟨(some 43), .load none (.t 42), none⟩, ⟨(some 44), .len (.t 43), none⟩, ⟨(some 45), .mov (.c (.lit (.int .i64 0))), none⟩]) (
      .block 2 (
       .loop (L_law04_Few_2 N))))))) (K_law04_Few_1 N)))
def L_law04_Few_4 (N : Nat → Nat) : AC :=
        .seq (
         .ops [⟨(some 81), .bin .lss (.t 80) (.t 79), none⟩]) (
        .seq (
         .cond (.t 81) (
          .skip) (
          .exit 6)) (
        .seq (
         .block 7 (
          .seq (
           .ops [⟨(some 82), .iaddr 1 (.t 78) (.t 80), none⟩, ⟨(some 83), .load none (.t 82), none⟩, ⟨(some 10), .mov (.t 83), none⟩]) (
          .seq (
           .ops [⟨(some 84), .mov (.t 10), none⟩, ⟨(some 85), .lens (.t 84), none⟩, ⟨(some 86), .bin .gtr (.t 85) (.c (.lit (.int .i64 60))), none⟩]) (
          .cond (.t 86) (
           .seq (
            .ops [⟨(some 2), .mov (.c (.lit (.bool false))), none⟩]) (
           .ret)) (
           .skip))))) (
        .ops [⟨(some 87), .bin .add (.t 80) (.c (.lit (.int .i64 1))), none⟩, ⟨(some 80), .mov (.t 87), none⟩])))
def K_law04_Few_3 (N : Nat → Nat) : AC :=
 .ops [⟨(some 88), .bin .add (.t 57) (.c (.lit (.int .i64 1))), none⟩, ⟨(some 57), .mov (.t 88), none⟩]
def L_law04_Few_3 (N : Nat → Nat) : AC :=
    .seq (
     .ops [⟨(some 58), .bin .lss (.t 57) (.t 56), none⟩]) (
    .seq (
     .cond (.t 58) (
      .skip) (
      .exit 4)) (
    .seq (
     .block 5 (
      .seq (
       .ops [⟨(some 59), .iaddr 6 (.t 55) (.t 57), none⟩, ⟨(some 60), .load (some 6) (.t 59), none⟩, ⟨(some 8), .new (t_api_TypeNode N) (.agg [(.lit (.int .i64 0)), (.lit (.int .i64 0)), (.lit (.string (mkS []))), (.lit (.slice none 0 0)), (.lit (.slice none 0 0)), (.lit (.bool false))]), none⟩, ⟨none, .store 6 (.t 8) (.t 60), none⟩]) (
      .seq (
       .seq (
        .ops [⟨(some 61), .faddr 3 (.t 8), none⟩, ⟨(some 62), .load none (.t 61), none⟩, ⟨(some 63), .len (.t 62), none⟩, ⟨(some 64), .bin .gtr (.t 63) (.c (.lit (.int .i64 20))), none⟩, ⟨(some 65), .mov (.t 64), none⟩, ⟨(some 66), .faddr 4 (.t 8), (some (65, false))⟩, ⟨(some 67), .load none (.t 66), (some (65, false))⟩, ⟨(some 68), .len (.t 67), (some (65, false))⟩, ⟨(some 69), .bin .gtr (.t 68) (.c (.lit (.int .i64 20))), (some (65, false))⟩, ⟨(some 70), .pick (.t 65) (.c (.lit (.bool true))) (.t 69), none⟩, ⟨(some 71), .mov (.t 70), none⟩, ⟨(some 72), .faddr 2 (.t 8), (some (71, false))⟩, ⟨(some 73), .load none (.t 72), (some (71, false))⟩, ⟨(some 74), .lens (.t 73), (some (71, false))⟩, ⟨(some 75), .bin .gtr (.t 74) (.c (.lit (.int .i64 60))), (some (71, false))⟩, ⟨(some 76), .pick (.t 71) (.c (.lit (.bool true))) (.t 75), none⟩]) (
       .cond (.t 76) (
        .seq (
         .ops [⟨(some 2), .mov (.c (.lit (.bool false))), none⟩]) (
        .ret)) (
        .skip))) (
      .seq (
       .ops [⟨(some 77), .faddr 3 (.t 8), none⟩, ⟨(some 78), .load none (.t 77), none⟩, ⟨(some 79), .len (.t 78), none⟩, ⟨(some 80), .mov (.c (.lit (.int .i64 0))), none⟩]) (
      .block 6 (
       .loop (L_law04_Few_4 N))))))) (K_law04_Few_3 N)))
def L_law04_Few_5 (N : Nat → Nat) : AC :=
    .seq (
     .ops [⟨(some 93), .bin .lss (.t 92) (.t 91), none⟩]) (
    .seq (
     .cond (.t 93) (
      .skip) (
      .exit 8)) (
    .seq (
     .block 9 (
      .seq (
       .ops [⟨(some 94), .iaddr 3 (.t 90) (.t 92), none⟩, ⟨(some 95), .load (some 3) (.t 94), none⟩, ⟨(some 12), .new (t_api_Alias N) (.agg [(.lit (.string (mkS []))), (.lit (.int .i64 0)), (.lit (.int .i64 0))]), none⟩, ⟨none, .store 3 (.t 12) (.t 95), none⟩]) (
      .seq (
       .ops [⟨(some 96), .faddr 0 (.t 12), none⟩, ⟨(some 97), .load none (.t 96), none⟩, ⟨(some 98), .lens (.t 97), none⟩, ⟨(some 99), .bin .gtr (.t 98) (.c (.lit (.int .i64 60))), none⟩]) (
      .cond (.t 99) (
       .seq (
        .ops [⟨(some 2), .mov (.c (.lit (.bool false))), none⟩]) (
       .ret)) (
       .skip))))) (
    .ops [⟨(some 100), .bin .add (.t 92) (.c (.lit (.int .i64 1))), none⟩, ⟨(some 92), .mov (.t 100), none⟩])))
def K_law04_Few_5 (N : Nat → Nat) : AC :=
 .seq (
  .ops [⟨(some 101), .faddr 0 (.t 1), none⟩, ⟨(some 102), .load none (.t 101), none⟩, ⟨(some 103), .len (.t 102), none⟩, ⟨(some 104), .bin .leq (.t 103) (.c (.lit (.int .i64 60))), none⟩, ⟨(some 105), .mov (.t 104), none⟩, ⟨(some 106), .faddr 1 (.t 1), (some (105, true))⟩, ⟨(some 107), .load none (.t 106), (some (105, true))⟩, ⟨(some 108), .len (.t 107), (some (105, true))⟩, ⟨(some 109), .bin .leq (.t 108) (.c (.lit (.int .i64 60))), (some (105, true))⟩, ⟨(some 110), .pick (.t 105) (.t 109) (.c (.lit (.bool false))), none⟩, ⟨(some 111), .mov (.t 110), none⟩, ⟨(some 112), .faddr 2 (.t 1), (some (111, true))⟩, ⟨(some 113), .load none (.t 112), (some (111, true))⟩, ⟨(some 114), .len (.t 113), (some (111, true))⟩, ⟨(some 115), .bin .leq (.t 114) (.c (.lit (.int .i64 10))), (some (111, true))⟩, ⟨(some 116), .pick (.t 111) (.t 115) (.c (.lit (.bool false))), none⟩, ⟨(some 2), .mov (.t 116), none⟩]) (
 .ret)
def K_law04_Few_4 (N : Nat → Nat) : AC :=
 .seq (
  .seq (
   .ops [⟨(some 89), .faddr 2 (.t 1), none⟩, ⟨(some 90), .load none (.t 89), none⟩, ⟨(some 91), .len (.t 90), none⟩, ⟨(some 92), .mov (.c (.lit (.int .i64 0))), none⟩]) (
  .block 8 (
   .loop (L_law04_Few_5 N)))) (K_law04_Few_5 N)
def K_law04_Few_2 (N : Nat → Nat) : AC :=
 .seq (
  .seq (
   .ops [⟨(some 54), .faddr 1 (.t 1), none⟩, ⟨(some 55), .load none (.t 54), none⟩, ⟨(some 56), .len (.t 55), none⟩, ⟨(some 57), .mov (.c (.lit (.int .i64 0))), none⟩]) (
  .block 4 (
   .loop (L_law04_Few_3 N)))) (K_law04_Few_4 N)
/-- azimuth/azimuthlaw04.Few -/
def C_law04_Few (N : Nat → Nat) : AFunc := ⟨117, [.inl 2],
 .seq (
  .ops [⟨(some 1), .box (t_api_Tree N) (.t 0), none⟩, ⟨(some 2), .mov (.c (.lit (.bool false))), none⟩]) (
 .seq (
  .seq (
   .ops [⟨(some 13), .faddr 0 (.t 1), none⟩, ⟨(some 14), .load none (.t 13), none⟩, ⟨(some 15), .len (.t 14), none⟩, ⟨(some 16), .mov (.c (.lit (.int .i64 0))), none⟩]) (
  .block 0 (
   .loop (L_law04_Few_1 N)))) (K_law04_Few_2 N)), false⟩

def L_law04_TreeBuilds_1 (N : Nat → Nat) : AC :=
    .seq (
     .ops [⟨(some 34), .bin .lss (.t 33) (.t 32), none⟩]) (
    .seq (
     .cond (.t 34) (
      .skip) (
      .exit 0)) (
    .seq (
     .block 1 (
      .seq (
       .ops [⟨(some 35), .mov (.t 33), none⟩, ⟨(some 36), .iaddr 6 (.t 31) (.t 33), none⟩, ⟨(some 37), .load (some 6) (.t 36), none⟩, ⟨(some 6), .new (t_api_TypeNode N) (.agg [(.lit (.int .i64 0)), (.lit (.int .i64 0)), (.lit (.string (mkS []))), (.lit (.slice none 0 0)), (.lit (.slice none 0 0)), (.lit (.bool false))]), none⟩, ⟨(some 5), .mov (.t 35), none⟩, ⟨none, .store 6 (.t 6) (.t 37), none⟩]) (
      .seq (
       .ops [⟨(some 39), .mov (.t 3), none⟩, ⟨(some 40), .load (some 6) (.t 6), none⟩, ⟨(some 41), .call (.c (.fn (f_p_tree_Builder_Type N) [] [])) [(.t 39), (.t 40)], none⟩, ⟨(some 38), .mov (.t 41), none⟩, ⟨(some 42), .extract (.t 38) 0, none⟩, ⟨(some 43), .extract (.t 38) 1, none⟩, ⟨(some 7), .mov (.t 42), none⟩, ⟨(some 8), .mov (.t 43), none⟩]) (
      .seq (
       .ops [⟨(some 45), .mov (.t 4), none⟩, ⟨(some 46), .load (some 6) (.t 6), none⟩, ⟨(some 47), .call (.c (.fn (f_p_tree_Builder_Type N) [] [])) [(.t 45), (.t 46)], none⟩, ⟨(some 44), .mov (.t 47), none⟩, ⟨(some 48), .extract (.t 44) 0, none⟩, ⟨(some 49), .extract (.t 44) 1, none⟩, ⟨(some 9), .mov (.t 48), none⟩, ⟨(some 10), .mov (.t 49), none⟩]) (
      .seq (
       .ops [⟨(some 50), .mov (.t 7), none⟩, ⟨(some 51), .mov (.t 5), none⟩, ⟨(some 52), .eq true .pint (.t 50) (.t 51), none⟩, ⟨(some 53), .mov (.t 52), none⟩, ⟨(some 54), .mov (.t 8), (some (53, false))⟩, ⟨(some 55), .eq true .pint (.t 54) (.c (.lit (.int .i64 0))), (some (53, false))⟩, ⟨(some 56), .pick (.t 53) (.c (.lit (.bool true))) (.t 55), none⟩, ⟨(some 57), .mov (.t 56), none⟩, ⟨(some 58), .mov (.t 10), (some (57, false))⟩, ⟨(some 59), .eq true .pint (.t 58) (.c (.lit (.int .i64 1))), (some (57, false))⟩, ⟨(some 60), .pick (.t 57) (.c (.lit (.bool true))) (.t 59), none⟩]) (
      .cond (.t 60) (
       .seq (
        .ops [⟨(some 2), .mov (.c (.lit (.bool false))), none⟩]) (
       .ret)) (
       .skip))))))) (
    .ops [⟨(some 61), .bin .add (.t 33) (.c (.lit (.int .i64 1))), none⟩, ⟨(some 33), .mov (.t 61), none⟩])))
def L_law04_TreeBuilds_2 (N : Nat → Nat) : AC :=
    .seq (
     .ops [⟨(some 66), .bin .lss (.t 65) (.t 64), none⟩]) (
    .seq (
     .cond (.t 66) (
      .skip) (
      .exit 2)) (
    .seq (
     .block 3 (
      .seq (
       .ops [⟨(some 67), .mov (.t 65), none⟩, ⟨(some 68), .iaddr 8 (.t 63) (.t 65), none⟩, ⟨(some 69), .load (some 8) (.t 68), none⟩, ⟨(some 12), .new (t_api_Node N) (.agg [(.lit (.int .i64 0)), (.lit (.int .i64 0)), (.lit (.string (mkS []))), (.lit (.int .i64 0)), (.lit (.int .u64 0)), (.lit (.slice none 0 0)), (.lit (.slice none 0 0)), (.lit (.slice none 0 0))]), none⟩, ⟨(some 11), .mov (.t 67), none⟩, ⟨none, .store 8 (.t 12) (.t 69), none⟩]) (
      .seq (
       .ops [⟨(some 71), .mov (.t 3), none⟩, ⟨(some 72), .load (some 8) (.t 12), none⟩, ⟨(some 73), .call (.c (.fn (f_p_tree_Builder_Term N) [] [])) [(.t 71), (.t 72)], none⟩, ⟨(some 70), .mov (.t 73), none⟩, ⟨(some 74), .extract (.t 70) 0, none⟩, ⟨(some 75), .extract (.t 70) 1, none⟩, ⟨(some 13), .mov (.t 74), none⟩, ⟨(some 14), .mov (.t 75), none⟩]) (
      .seq (
       .ops [⟨(some 77), .mov (.t 4), none⟩, ⟨(some 78), .load (some 8) (.t 12), none⟩, ⟨(some 79), .call (.c (.fn (f_p_tree_Builder_Term N) [] [])) [(.t 77), (.t 78)], none⟩, ⟨(some 76), .mov (.t 79), none⟩, ⟨(some 80), .extract (.t 76) 0, none⟩, ⟨(some 81), .extract (.t 76) 1, none⟩, ⟨(some 15), .mov (.t 80), none⟩, ⟨(some 16), .mov (.t 81), none⟩]) (
      .seq (
       .ops [⟨(some 82), .mov (.t 13), none⟩, ⟨(some 83), .mov (.t 11), none⟩, ⟨(some 84), .eq true .pint (.t 82) (.t 83), none⟩, ⟨(some 85), .mov (.t 84), none⟩, ⟨(some 86), .mov (.t 14), (some (85, false))⟩, ⟨(some 87), .eq true .pint (.t 86) (.c (.lit (.int .i64 0))), (some (85, false))⟩, ⟨(some 88), .pick (.t 85) (.c (.lit (.bool true))) (.t 87), none⟩, ⟨(some 89), .mov (.t 88), none⟩, ⟨(some 90), .mov (.t 16), (some (89, false))⟩, ⟨(some 91), .eq true .pint (.t 90) (.c (.lit (.int .i64 1))), (some (89, false))⟩, ⟨(some 92), .pick (.t 89) (.c (.lit (.bool true))) (.t 91), none⟩]) (
      .cond (.t 92) (
       .seq (
        .ops [⟨(some 2), .mov (.c (.lit (.bool false))), none⟩]) (
       .ret)) (
       .skip))))))) (
    .ops [⟨(some 93), .bin .add (.t 65) (.c (.lit (.int .i64 1))), none⟩, ⟨(some 65), .mov (.t 93), none⟩])))
def L_law04_TreeBuilds_3 (N : Nat → Nat) : AC :=
    .seq (
     .ops [⟨(some 98), .bin .lss (.t 97) (.t 96), none⟩]) (
    .seq (
     .cond (.t 98) (
      .skip) (
      .exit 4)) (
    .seq (
     .block 5 (
      .seq (
       .ops [⟨(some 99), .iaddr 3 (.t 95) (.t 97), none⟩, ⟨(some 100), .load (some 3) (.t 99), none⟩, ⟨(some 18), .new (t_api_Alias N) (.agg [(.lit (.string (mkS []))), (.lit (.int .i64 0)), (.lit (.int .i64 0))]), none⟩, ⟨none, .store 3 (.t 18) (.t 100), none⟩]) (
      .seq (
       .ops [⟨(some 101), .mov (.t 3), none⟩, ⟨(some 102), .load (some 3) (.t 18), none⟩, ⟨(some 103), .call (.c (.fn (f_p_tree_Builder_Alias N) [] [])) [(.t 101), (.t 102)], none⟩]) (
      .ops [⟨(some 104), .mov (.t 4), none⟩, ⟨(some 105), .load (some 3) (.t 18), none⟩, ⟨(some 106), .call (.c (.fn (f_p_tree_Builder_Alias N) [] [])) [(.t 104), (.t 105)], none⟩])))) (
    .ops [⟨(some 107), .bin .add (.t 97) (.c (.lit (.int .i64 1))), none⟩, ⟨(some 97), .mov (.t 107), none⟩])))
def L_law04_TreeBuilds_4 (N : Nat → Nat) : AC :=
    .seq (
     .ops [⟨(some 153), .bin .lss (.t 152) (.t 151), none⟩]) (
    .seq (
     .cond (.t 153) (
      .skip) (
      .exit 6)) (
    .seq (
     .block 7 (
      .seq (
       .ops [⟨(some 154), .mov (.t 152), none⟩, ⟨(some 20), .mov (.t 154), none⟩]) (
      .seq (
       .dops 33 [⟨(some 155), .faddr 0 (.t 19), none⟩, ⟨(some 156), .load none (.t 155), none⟩, ⟨(some 157), .mov (.t 20), none⟩, ⟨(some 158), .iaddr 8 (.t 156) (.t 157), none⟩, ⟨(some 159), .faddr 1 (.t 158), none⟩, ⟨(some 160), .load none (.t 159), none⟩, ⟨(some 161), .faddr 0 (.t 1), none⟩, ⟨(some 162), .load none (.t 161), none⟩, ⟨(some 163), .mov (.t 20), none⟩, ⟨(some 164), .iaddr 8 (.t 162) (.t 163), none⟩, ⟨(some 165), .faddr 1 (.t 164), none⟩, ⟨(some 166), .load none (.t 165), none⟩, ⟨(some 167), .eq true .pint (.t 160) (.t 166), none⟩, ⟨(some 168), .mov (.t 167), none⟩, ⟨(some 169), .faddr 0 (.t 19), (some (168, false))⟩, ⟨(some 170), .load none (.t 169), (some (168, false))⟩, ⟨(some 171), .mov (.t 20), (some (168, false))⟩, ⟨(some 172), .iaddr 8 (.t 170) (.t 171), (some (168, false))⟩, ⟨(some 173), .faddr 0 (.t 172), (some (168, false))⟩, ⟨(some 174), .load none (.t 173), (some (168, false))⟩, ⟨(some 175), .faddr 0 (.t 1), (some (168, false))⟩, ⟨(some 176), .load none (.t 175), (some (168, false))⟩, ⟨(some 177), .mov (.t 20), (some (168, false))⟩, ⟨(some 178), .iaddr 8 (.t 176) (.t 177), (some (168, false))⟩, ⟨(some 179), .faddr 0 (.t 178), (some (168, false))⟩, ⟨(some 180), .load none (.t 179), (some (168, false))⟩, ⟨(some 181), .eq true .pint (.t 174) (.t 180), (some (168, false))⟩, ⟨(some 182), .pick (.t 168) (.c (.lit (.bool true))) (.t 181), none⟩] [0, 2, 0, 0, 0, 2, 0, 2, 0, 0, 0, 2, 0, 0, 0, 2, 0, 0, 0, 2, 0, 2, 0, 0, 0, 2, 0, 0] []) (
      .cond (.t 182) (
       .seq (
        .ops [⟨(some 2), .mov (.c (.lit (.bool false))), none⟩]) (
       .ret)) (
       .skip))))) (
    .ops [⟨(some 183), .bin .add (.t 152) (.c (.lit (.int .i64 1))), none⟩, ⟨(some 152), .mov (.t 183), none⟩])))
def K_law04_TreeBuilds_4 (N : Nat → Nat) : AC :=
 .seq (
  .ops [⟨(some 184), .load (some 3) (.t 1), none⟩, ⟨(some 185), .call (.c (.fn (f_tree_Check N) [] [])) [(.t 184)], none⟩, ⟨(some 186), .eq true .pint (.t 185) (.c (.lit (.int .i64 0))), none⟩, ⟨(some 187), .mov (.t 186), none⟩, ⟨(some 188), .load (some 3) (.t 19), (some (187, false))⟩, ⟨(some 189), .load (some 3) (.t 1), (some (187, false))⟩, ⟨(some 190), .call (.c (.fn (f_tree_Same N) [] [])) [(.t 188), (.t 189)], (some (187, false))⟩, ⟨(some 191), .pick (.t 187) (.c (.lit (.bool true))) (.t 190), none⟩, ⟨(some 2), .mov (.t 191), none⟩]) (
 .ret)
def K_law04_TreeBuilds_3 (N : Nat → Nat) : AC :=
 .seq (
  .ops [⟨(some 108), .mov (.t 3), none⟩, ⟨(some 109), .call (.c (.fn (f_p_tree_Builder_Tree N) [] [])) [(.t 108)], none⟩, ⟨(some 19), .new (t_api_Tree N) (.agg [(.lit (.slice none 0 0)), (.lit (.slice none 0 0)), (.lit (.slice none 0 0))]), none⟩, ⟨none, .store 3 (.t 19) (.t 109), none⟩]) (
 .seq (
  .seq (
   .dops 28 [⟨(some 110), .load (some 3) (.t 19), none⟩, ⟨(some 112), .load (some 3) (.t 1), none⟩, ⟨(some 111), .call (.c (.fn (f_tree_Check N) [] [])) [(.t 110)], none⟩, ⟨(some 113), .call (.c (.fn (f_tree_Check N) [] [])) [(.t 112)], none⟩, ⟨(some 114), .eq true .pint (.t 111) (.t 113), none⟩, ⟨(some 115), .mov (.t 114), none⟩, ⟨(some 116), .faddr 0 (.t 19), (some (115, false))⟩, ⟨(some 117), .load none (.t 116), (some (115, false))⟩, ⟨(some 118), .len (.t 117), (some (115, false))⟩, ⟨(some 119), .faddr 0 (.t 1), (some (115, false))⟩, ⟨(some 120), .load none (.t 119), (some (115, false))⟩, ⟨(some 121), .len (.t 120), (some (115, false))⟩, ⟨(some 122), .eq true .pint (.t 118) (.t 121), (some (115, false))⟩, ⟨(some 123), .pick (.t 115) (.c (.lit (.bool true))) (.t 122), none⟩, ⟨(some 124), .mov (.t 123), none⟩, ⟨(some 125), .faddr 1 (.t 19), (some (124, false))⟩, ⟨(some 126), .load none (.t 125), (some (124, false))⟩, ⟨(some 127), .len (.t 126), (some (124, false))⟩, ⟨(some 128), .faddr 1 (.t 1), (some (124, false))⟩, ⟨(some 129), .load none (.t 128), (some (124, false))⟩, ⟨(some 130), .len (.t 129), (some (124, false))⟩, ⟨(some 131), .eq true .pint (.t 127) (.t 130), (some (124, false))⟩, ⟨(some 132), .pick (.t 124) (.c (.lit (.bool true))) (.t 131), none⟩, ⟨(some 133), .mov (.t 132), none⟩, ⟨(some 134), .faddr 2 (.t 19), (some (133, false))⟩, ⟨(some 135), .load none (.t 134), (some (133, false))⟩, ⟨(some 136), .len (.t 135), (some (133, false))⟩, ⟨(some 137), .faddr 2 (.t 1), (some (133, false))⟩, ⟨(some 138), .load none (.t 137), (some (133, false))⟩, ⟨(some 139), .len (.t 138), (some (133, false))⟩, ⟨(some 140), .eq true .pint (.t 136) (.t 139), (some (133, false))⟩, ⟨(some 141), .pick (.t 133) (.c (.lit (.bool true))) (.t 140), none⟩, ⟨(some 142), .mov (.t 141), none⟩, ⟨(some 143), .mov (.t 4), (some (142, false))⟩, ⟨(some 144), .call (.c (.fn (f_p_tree_Builder_Tree N) [] [])) [(.t 143)], (some (142, false))⟩, ⟨(some 145), .field 0 none (.t 144), (some (142, false))⟩, ⟨(some 146), .len (.t 145), (some (142, false))⟩, ⟨(some 147), .eq true .pint (.t 146) (.c (.lit (.int .i64 0))), (some (142, false))⟩, ⟨(some 148), .pick (.t 142) (.c (.lit (.bool true))) (.t 147), none⟩] [2, 2, 1, 0, 0, 0, 0, 2, 0, 0, 2, 0, 0, 0, 0, 0, 2, 0, 0, 2, 0, 0, 0, 0, 0, 2, 0, 0, 2, 0, 0, 0, 0, 0, 0, 0, 0, 0, 0] []) (
  .cond (.t 148) (
   .seq (
    .ops [⟨(some 2), .mov (.c (.lit (.bool false))), none⟩]) (
   .ret)) (
   .skip))) (
 .seq (
  .seq (
   .ops [⟨(some 149), .faddr 0 (.t 1), none⟩, ⟨(some 150), .load none (.t 149), none⟩, ⟨(some 151), .len (.t 150), none⟩, ⟨(some 152), .mov (.c (.lit (.int .i64 0))), none⟩]) (
  .block 6 (
   .loop (L_law04_TreeBuilds_4 N)))) (K_law04_TreeBuilds_4 N)))
def K_law04_TreeBuilds_2 (N : Nat → Nat) : AC :=
 .seq (
  .seq (
   .ops [⟨(some 94), .faddr 2 (.t 1), none⟩, ⟨(some 95), .load none (.t 94), none⟩, ⟨(some 96), .len (.t 95), none⟩, ⟨(some 97), .mov (.c (.lit (.int .i64 0))), none⟩]) (
  .block 4 (
   .loop (L_law04_TreeBuilds_3 N)))) (K_law04_TreeBuilds_3 N)
def K_law04_TreeBuilds_1 (N : Nat → Nat) : AC :=
 .seq (
  .seq (
   .ops [⟨(some 62), .faddr 0 (.t 1), none⟩, ⟨(some 63), .load none (.t 62), none⟩, ⟨(some 64), .len (.t 63), none⟩, ⟨(some 65), .mov (.c (.lit (.int .i64 0))), none⟩]) (
  .block 2 (
   .loop (L_law04_TreeBuilds_2 N)))) (K_law04_TreeBuilds_2 N)
/-- azimuth/azimuthlaw04.TreeBuilds -/
def C_law04_TreeBuilds (N : Nat → Nat) : AFunc := ⟨192, [.inl 2],
 .seq (
  .ops [⟨(some 1), .box (t_api_Tree N) (.t 0), none⟩, ⟨(some 2), .mov (.c (.lit (.bool false))), none⟩]) (
 .seq (
  .seq (
   .ops [⟨(some 21), .call (.c (.fn (f_law04_lives N) [] [])) [], none⟩, ⟨(some 22), .un .not (.t 21), none⟩, ⟨(some 23), .mov (.t 22), none⟩, ⟨(some 24), .load (some 3) (.t 1), (some (23, false))⟩, ⟨(some 25), .call (.c (.fn (f_law04_Few N) [] [])) [(.t 24)], (some (23, false))⟩, ⟨(some 26), .un .not (.t 25), (some (23, false))⟩, ⟨(some 27), .pick (.t 23) (.c (.lit (.bool true))) (.t 26), none⟩]) (
  .cond (.t 27) (
   .seq (
    .ops [⟨(some 28), .call (.c (.fn (f_law04_lives N) [] [])) [], none⟩, ⟨(some 2), .mov (.t 28), none⟩]) (
   .ret)) (
   .skip))) (
 .seq (
  .ops [⟨(some 29), .call (.c (.fn (f_tree_New N) [] [])) [], none⟩, ⟨(some 3), .mov (.t 29), none⟩]) (
 .seq (
  .ops [⟨(some 4), .mov (.c (.lit (.pointer none))), none⟩]) (
 .seq (
  .seq (
   .ops [⟨(some 30), .faddr 1 (.t 1), none⟩, ⟨(some 31), .load none (.t 30), none⟩, ⟨(some 32), .len (.t 31), none⟩, ⟨(some 33), .mov (.c (.lit (.int .i64 0))), none⟩]) (
  .block 0 (
   .loop (L_law04_TreeBuilds_1 N)))) (K_law04_TreeBuilds_1 N))))), false⟩

/-- azimuth/azimuthlaw04.lives -/
def C_law04_lives (N : Nat → Nat) : AFunc := ⟨40, [.inl 0],
 .seq (
  .ops [⟨(some 0), .mov (.c (.lit (.bool false))), none⟩]) (
 .seq (
  .ops [⟨(some 7), .call (.c (.fn (f_tree_New N) [] [])) [], none⟩, ⟨(some 1), .mov (.t 7), none⟩]) (
 .seq (
  .ops [⟨(some 9), .mov (.t 1), none⟩, ⟨(some 10), .build [(.lit (.int .i64 0)), (.lit (.int .i64 0)), (.lit (.string (mkS []))), (.lit (.int .i64 0)), (.lit (.int .u64 0)), (.lit (.slice none 0 0)), (.lit (.slice none 0 0)), (.lit (.slice none 0 0))] [(0, 1, (.c (.lit (.int .i64 0)))), (2, 1, (.c (.lit (.string (mkS [120])))))], none⟩, ⟨(some 11), .call (.c (.fn (f_p_tree_Builder_Term N) [] [])) [(.t 9), (.t 10)], none⟩, ⟨(some 8), .mov (.t 11), none⟩, ⟨(some 12), .extract (.t 8) 0, none⟩, ⟨(some 13), .extract (.t 8) 1, none⟩, ⟨(some 2), .mov (.t 12), none⟩, ⟨(some 3), .mov (.t 13), none⟩]) (
 .seq (
  .ops [⟨(some 15), .mov (.t 1), none⟩, ⟨(some 16), .mov (.t 2), none⟩, ⟨(some 17), .bslice (t_int N) 1 none 1 [(.lit (.int .i64 0))] [(0, 1, (.t 16))], none⟩, ⟨(some 18), .build [(.lit (.int .i64 0)), (.lit (.int .i64 0)), (.lit (.string (mkS []))), (.lit (.int .i64 0)), (.lit (.int .u64 0)), (.lit (.slice none 0 0)), (.lit (.slice none 0 0)), (.lit (.slice none 0 0))] [(0, 1, (.c (.lit (.int .i64 5)))), (2, 1, (.c (.lit (.string (mkS [120]))))), (6, 1, (.t 17))], none⟩, ⟨(some 19), .call (.c (.fn (f_p_tree_Builder_Term N) [] [])) [(.t 15), (.t 18)], none⟩, ⟨(some 14), .mov (.t 19), none⟩, ⟨(some 20), .extract (.t 14) 0, none⟩, ⟨(some 21), .extract (.t 14) 1, none⟩, ⟨(some 4), .mov (.t 20), none⟩, ⟨(some 5), .mov (.t 21), none⟩]) (
 .seq (
  .ops [⟨(some 22), .mov (.t 1), none⟩, ⟨(some 23), .call (.c (.fn (f_p_tree_Builder_Tree N) [] [])) [(.t 22)], none⟩, ⟨(some 6), .new (t_api_Tree N) (.agg [(.lit (.slice none 0 0)), (.lit (.slice none 0 0)), (.lit (.slice none 0 0))]), none⟩, ⟨none, .store 3 (.t 6) (.t 23), none⟩]) (
 .seq (
  .ops [⟨(some 24), .mov (.t 3), none⟩, ⟨(some 25), .eq false .pint (.t 24) (.c (.lit (.int .i64 0))), none⟩, ⟨(some 26), .mov (.t 25), none⟩, ⟨(some 27), .mov (.t 5), (some (26, true))⟩, ⟨(some 28), .eq false .pint (.t 27) (.c (.lit (.int .i64 0))), (some (26, true))⟩, ⟨(some 29), .pick (.t 26) (.t 28) (.c (.lit (.bool false))), none⟩, ⟨(some 30), .mov (.t 29), none⟩, ⟨(some 31), .load (some 3) (.t 6), (some (30, true))⟩, ⟨(some 32), .call (.c (.fn (f_tree_Check N) [] [])) [(.t 31)], (some (30, true))⟩, ⟨(some 33), .eq false .pint (.t 32) (.c (.lit (.int .i64 0))), (some (30, true))⟩, ⟨(some 34), .pick (.t 30) (.t 33) (.c (.lit (.bool false))), none⟩, ⟨(some 35), .mov (.t 34), none⟩, ⟨(some 36), .load (some 3) (.t 6), (some (35, true))⟩, ⟨(some 37), .call (.c (.fn (f_tree_Depth N) [] [])) [(.t 36)], (some (35, true))⟩, ⟨(some 38), .eq false .pint (.t 37) (.c (.lit (.int .i64 2))), (some (35, true))⟩, ⟨(some 39), .pick (.t 35) (.t 38) (.c (.lit (.bool false))), none⟩, ⟨(some 0), .mov (.t 39), none⟩]) (
 .ret)))))), false⟩

end Go.Proofs.Eng
/- Is a tree little: run by the engine. -/
set_option linter.unusedVariables false
set_option linter.unusedSimpArgs false
set_option maxRecDepth 100000
namespace Go.Proofs.Eng
open Go
def le60 (s : List UInt8) : Bool := decide (s.length ≤ 60)
def fewN (n : Nd) : Bool := (decide (n.names.length ≤ 20) && decide (n.kids.length ≤ 20) && decide (n.types.length ≤ 20) && decide (n.name.length ≤ 60)) && n.names.all le60
def fewT (n : Ty) : Bool := (decide (n.names.length ≤ 20) && decide (n.kids.length ≤ 20) && decide (n.name.length ≤ 60)) && n.names.all le60
def fewA (n : Al) : Bool := decide (n.name.length ≤ 60)
def fewE (t : Tr) : Bool := decide (t.nodes.length ≤ 60) && decide (t.types.length ≤ 60) && decide (t.als.length ≤ 10)
def fewB (t : Tr) : Bool := t.nodes.all fewN && (t.types.all fewT && (t.als.all fewA && fewE t))
theorem drop_all {α : Type} {p : α → Bool} {l : List α} {i : Nat} (h : i < l.length) : (l.drop i).all p = (p l[i] && (l.drop (i + 1)).all p) := by
  rw [List.drop_eq_getElem_cons h, List.all_cons]
section
variable {Γ : Sums} {A : Tab} {N : Nat → Nat}
theorem few_end {H H' : Hp} {a b c : AV} {t : Tr} {ρ : Rho} (la : asLen a = some t.nodes.length) (lb : asLen b = some t.types.length) (lc : asLen c = some t.als.length) (hl : t.nodes.length < 2 ^ 63 ∧ t.types.length < 2 ^ 63 ∧ t.als.length < 2 ^ 63) (r1 : ρ 1 = .ptr H.l.length 0) (hL : Loc H H' [(H.l.length, .cells [a, b, c] (t_api_Tree N))]) :
    wp (lim Γ A) none (K_law04_Few_5 N) ρ H' (Ends [.inl 2] false H fun p => p = (avBool (fewE t), none)) := by
  have hbox := hL.head
  have f1 := fun b => settle_keeps (v := avBool b) hL.keeps (by simp [AV.under])
  unfold fewE
  by_cases c1 : t.nodes.length ≤ 60
  · have c1' : (t.nodes.length : Int) ≤ 60 := by omega
    by_cases c2 : t.types.length ≤ 60
    · have c2' : (t.types.length : Int) ≤ 60 := by omega
      by_cases c3 : t.als.length ≤ 10
      · have c3' : (t.als.length : Int) ≤ 10 := by omega
        simp [K_law04_Few_5, r1, hbox, la, lb, lc, c1, c1', c2, c2', c3, c3']
        exact f1 true
      · have c3' : ¬ (t.als.length : Int) ≤ 10 := by omega
        simp [K_law04_Few_5, r1, hbox, la, lb, lc, c1, c1', c2, c2', c3, c3']
        exact f1 false
    · have c2' : ¬ (t.types.length : Int) ≤ 60 := by omega
      simp [K_law04_Few_5, r1, hbox, la, lb, lc, c1, c1', c2, c2']
      exact f1 false
  · have c1' : ¬ (t.nodes.length : Int) ≤ 60 := by omega
    simp [K_law04_Few_5, r1, hbox, la, lb, lc, c1, c1']
    exact f1 false
theorem few_als {H H' : Hp} {a b c : AV} {t : Tr} {ρ : Rho} (la : asLen a = some t.nodes.length) (lb : asLen b = some t.types.length) {zs : List AV} (zs1 : Vw H 3 c zs) (zs2 : zs.length = t.als.length) (zs3 : ∀ (i : Nat) (y : AV) (n : Al), zs[i]? = some y → t.als[i]? = some n → AlR H y n) (hl : t.nodes.length < 2 ^ 63 ∧ t.types.length < 2 ^ 63 ∧ t.als.length < 2 ^ 63) (r1 : ρ 1 = .ptr H.l.length 0) (hL : Loc H H' [(H.l.length, .cells [a, b, c] (t_api_Tree N))]) :
    wp (lim Γ A) none (K_law04_Few_4 N) ρ H' (Ends [.inl 2] false H fun p => p = (avBool (t.als.all fewA && fewE t), none)) := by
  have lc : asLen c = some t.als.length := by rw [zs1.len, zs2]
  have hbox := hL.head
  generalize hE : (t.als.all fewA && fewE t) = E
  simp [K_law04_Few_4, r1, hbox, lc]
  refine wp_round (n := t.als.length) (fun q ρ H' => ∃ i : Nat, ρ 1 = .ptr H.l.length 0 ∧ ρ 90 = c ∧ ρ 91 = avInt .i64 (t.als.length : Nat) ∧ ρ 92 = avInt .i64 (i : Nat) ∧ i ≤ t.als.length ∧ ((t.als.drop i).all fewA && fewE t) = E ∧ Loc H H' [(H.l.length, .cells [a, b, c] (t_api_Tree N))] ∧ q = t.als.length - i) ?_ ?_
  · exact ⟨0, r1, rfl, rfl, rfl, by omega, hE, hL, rfl⟩
  · rintro q ρ H' ⟨i, r1, r90, r91, r92, hi, hE, hL, rfl⟩
    by_cases hlt : i < t.als.length
    · have hlt' : (i : Int) < t.als.length := by omega
      have hw : IntKind.wrap .i64 ((i : Int) + 1) = ((i + 1 : Nat) : Int) := by rw [wrap64 (by omega) (by omega)]; omega
      have hxi : zs[i]? = some zs[i] := List.getElem?_eq_getElem (by omega)
      have ey := zs3 i _ _ hxi (List.getElem?_eq_getElem hlt)
      unfold AlR alV at ey
      rw [ey] at hxi
      rw [drop_all hlt] at hE
      generalize t.als[i] = n at *
      obtain ⟨p, p1, p2⟩ := (zs1.loc hL).ats (k := .i64) hxi (by rfl) (by simp)
      have hLc := ((hL.alloc (.cells [.lit (.string (mkS [])), .lit (.int .i64 0), .lit (.int .i64 0)] (t_api_Alias N))).set (.cells [avStr n.name, avInt .i64 n.type, avInt .i64 n.pos] (t_api_Alias N))).sub (List.sublist_cons_self _ _)
      have f1 := settle_keeps (v := avBool false) hLc.keeps (by simp [AV.under])
      by_cases c1 : 60 < n.name.length
      · have c1' : (60 : Int) < n.name.length := by omega
        have hf : fewA n = false := decide_eq_false (by omega)
        have hE2 : E = false := by rw [← hE, hf, Bool.false_and, Bool.false_and]
        subst hE2
        simp [L_law04_Few_5, r1, r90, r91, r92, hlt', p1, p2, setFrom, c1, c1', -hset_d, -halloc_d]
        exact f1
      · have c1' : ¬ (60 : Int) < n.name.length := by omega
        have hf : fewA n = true := decide_eq_true (by omega)
        have hE2 : ((t.als.drop (i + 1)).all fewA && fewE t) = E := by rw [← hE, hf, Bool.true_and]
        simp [L_law04_Few_5, r1, r90, r91, r92, hlt', p1, p2, setFrom, c1, c1', hw, -hset_d, -halloc_d, -Int.natCast_add]
        exact ⟨t.als.length - (i + 1), by omega, i + 1, rfl, by omega, hE2, hLc, rfl⟩
    · have hlt' : ¬ (i : Int) < t.als.length := by omega
      rw [List.drop_of_length_le (by omega)] at hE
      simp only [List.all_nil, Bool.true_and] at hE
      subst hE
      simp [L_law04_Few_5, r1, r90, r91, r92, hlt']
      exact few_end la lb lc hl (by simp [r1]) hL

theorem few_types {H H' : Hp} {a b c : AV} {t : Tr} {ρ : Rho} (la : asLen a = some t.nodes.length) {xs : List AV} (xs1 : Vw H 6 b xs) (xs2 : xs.length = t.types.length) (xs3 : ∀ (i : Nat) (y : AV) (n : Ty), xs[i]? = some y → t.types[i]? = some n → TyR H y n) {zs : List AV} (zs1 : Vw H 3 c zs) (zs2 : zs.length = t.als.length) (zs3 : ∀ (i : Nat) (y : AV) (n : Al), zs[i]? = some y → t.als[i]? = some n → AlR H y n) (hl : t.nodes.length < 2 ^ 63 ∧ t.types.length < 2 ^ 63 ∧ t.als.length < 2 ^ 63) (hok : ∀ n ∈ t.types, n.names.length < 2 ^ 63) (r1 : ρ 1 = .ptr H.l.length 0) (hL : Loc H H' [(H.l.length, .cells [a, b, c] (t_api_Tree N))]) {E : Bool} (hE : (t.types.all fewT && (t.als.all fewA && fewE t)) = E)
    (rr : ρ 55 = b) (rl : ρ 56 = avInt .i64 (t.types.length : Nat)) (ri : ρ 57 = avInt .i64 (0 : Nat)) :
    wp (lim Γ A) none (.block 4 (.loop (L_law04_Few_3 N))) ρ H' (seqP (lim Γ A) none (K_law04_Few_4 N) (Ends [.inl 2] false H fun p => p = (avBool E, none))) := by
  simp only [wp_block]
  refine wp_round (n := t.types.length) (fun q ρ H' => ∃ i : Nat, ρ 1 = .ptr H.l.length 0 ∧ ρ 55 = b ∧ ρ 56 = avInt .i64 (t.types.length : Nat) ∧ ρ 57 = avInt .i64 (i : Nat) ∧ i ≤ t.types.length ∧ ((t.types.drop i).all fewT && (t.als.all fewA && fewE t)) = E ∧ Loc H H' [(H.l.length, .cells [a, b, c] (t_api_Tree N))] ∧ q = t.types.length - i) ?_ ?_
  · exact ⟨0, r1, rr, rl, ri, by omega, hE, hL, rfl⟩
  · rintro q ρ H' ⟨i, r1, rr, rl, ri, hi, hE, hL, rfl⟩
    by_cases hlt : i < t.types.length
    · have hlt' : (i : Int) < t.types.length := by omega
      have hw : IntKind.wrap .i64 ((i : Int) + 1) = ((i + 1 : Nat) : Int) := by rw [wrap64 (by omega) (by omega)]; omega
      have hxi : xs[i]? = some xs[i] := List.getElem?_eq_getElem (by omega)
      obtain ⟨sa, sb, ey, vsa, vsb⟩ := xs3 i _ _ hxi (List.getElem?_eq_getElem hlt)
      have okn := hok _ (List.getElem_mem hlt)
      rw [ey] at hxi
      rw [drop_all hlt] at hE
      generalize t.types[i] = n at *
      obtain ⟨p, p1, p2⟩ := (xs1.loc hL).ats (k := .i64) hxi (by rfl) (by simp [vsa.one, vsb.one])
      have hLc := (hL.alloc (.cells [.lit (.int .i64 0), .lit (.int .i64 0), .lit (.string (mkS [])), .lit (.slice none 0 0), .lit (.slice none 0 0), .lit (.bool false)] (t_api_TypeNode N))).set (.cells [avInt .i64 n.kind, avInt .i64 n.pos, avStr n.name, sa, sb, avBool n.opn] (t_api_TypeNode N))
      have hLd := hLc.sub (List.sublist_cons_self _ _)
      have f1 := settle_keeps (v := avBool false) hLd.keeps (by simp [AV.under])
      by_cases d0 : 20 < n.names.length
      · have d0' : (20 : Int) < n.names.length := by omega
        have hf : fewT n = false := by unfold fewT; simp; omega
        have hE2 : E = false := by rw [← hE, hf, Bool.false_and, Bool.false_and]
        subst hE2
        simp [L_law04_Few_3, r1, rr, rl, ri, hlt', p1, p2, vsa.one, vsb.one, VS.len vsa, VI.len vsb, setFrom, loadC, d0, d0', -hset_d, -halloc_d]
        exact f1
      have d0' : ¬ (20 : Int) < n.names.length := by omega
      by_cases d1 : 20 < n.kids.length
      · have d1' : (20 : Int) < n.kids.length := by omega
        have hf : fewT n = false := by unfold fewT; simp; omega
        have hE2 : E = false := by rw [← hE, hf, Bool.false_and, Bool.false_and]
        subst hE2
        simp [L_law04_Few_3, r1, rr, rl, ri, hlt', p1, p2, vsa.one, vsb.one, VS.len vsa, VI.len vsb, setFrom, loadC, d0, d0', d1, d1', -hset_d, -halloc_d]
        exact f1
      have d1' : ¬ (20 : Int) < n.kids.length := by omega
      by_cases d2 : 60 < n.name.length
      · have d2' : (60 : Int) < n.name.length := by omega
        have hf : fewT n = false := by unfold fewT; simp; omega
        have hE2 : E = false := by rw [← hE, hf, Bool.false_and, Bool.false_and]
        subst hE2
        simp [L_law04_Few_3, r1, rr, rl, ri, hlt', p1, p2, vsa.one, vsb.one, VS.len vsa, VI.len vsb, setFrom, loadC, d0, d0', d1, d1', d2, d2', -hset_d, -halloc_d]
        exact f1
      have d2' : ¬ (60 : Int) < n.name.length := by omega
      have hf : fewT n = n.names.all le60 := by
        have : (decide (n.names.length ≤ 20) && decide (n.kids.length ≤ 20) && decide (n.name.length ≤ 60)) = true := by simp; omega
        unfold fewT; rw [this, Bool.true_and]
      rw [hf] at hE
      simp [L_law04_Few_3, r1, rr, rl, ri, hlt', p1, p2, vsa.one, vsb.one, VS.len vsa, VI.len vsb, setFrom, loadC, d0, d0', d1, d1', d2, d2', -hset_d, -halloc_d]
      generalize hHc : hset (halloc H' _) H'.l.length _ = Hc
      rw [hHc] at hLc
      refine wp_round (n := n.names.length) (fun q ρ G => ∃ j : Nat, ρ 1 = .ptr H.l.length 0 ∧ ρ 55 = b ∧ ρ 56 = avInt .i64 (t.types.length : Nat) ∧ ρ 57 = avInt .i64 (i : Nat) ∧ ρ 78 = sa ∧ ρ 79 = avInt .i64 (n.names.length : Nat) ∧ ρ 80 = avInt .i64 (j : Nat) ∧ j ≤ n.names.length ∧ G = Hc ∧ ((n.names.drop j).all le60 && (t.types.drop (i + 1)).all fewT && (t.als.all fewA && fewE t)) = E ∧ q = n.names.length - j) ?_ ?_
      · exact ⟨0, r1, rr, rl, ri, rfl, rfl, rfl, by omega, rfl, hE, rfl⟩
      · rintro q ρ G ⟨j, r1, rr, rl, ri, s1, s2, s3, hj, rfl, hE, rfl⟩
        by_cases hjl : j < n.names.length
        · have hjl' : (j : Int) < n.names.length := by omega
          have hwj : IntKind.wrap .i64 ((j : Int) + 1) = ((j + 1 : Nat) : Int) := by have := okn; rw [wrap64 (by omega) (by omega)]; omega
          obtain ⟨pq, q1, q2⟩ := (vsa.loc hLc).at' (k := .i64) (i := (j : Int)) (e := avStr n.names[j]) (by omega) (by simp [List.getElem?_eq_getElem hjl]) rfl rfl rfl
          rw [drop_all hjl] at hE
          generalize n.names[j] = nm at *
          by_cases e1 : 60 < nm.length
          · have e1' : (60 : Int) < nm.length := by omega
            have hf2 : le60 nm = false := decide_eq_false (by omega)
            have hE2 : E = false := by rw [← hE, hf2, Bool.false_and, Bool.false_and, Bool.false_and]
            subst hE2
            have f2 := settle_keeps (v := avBool false) hLc.keeps (by simp [AV.under])
            simp [L_law04_Few_4, r1, rr, rl, ri, s1, s2, s3, hjl', q1, q2, e1, e1']
            exact f2
          · have e1' : ¬ (60 : Int) < nm.length := by omega
            have hf2 : le60 nm = true := decide_eq_true (by omega)
            rw [hf2, Bool.true_and] at hE
            simp [L_law04_Few_4, r1, rr, rl, ri, s1, s2, s3, hjl', q1, q2, e1, e1', hwj, -Int.natCast_add]
            exact ⟨n.names.length - (j + 1), by omega, j + 1, rfl, by omega, hE, rfl⟩
        · have hjl' : ¬ (j : Int) < n.names.length := by omega
          rw [List.drop_of_length_le (by omega)] at hE
          simp only [List.all_nil, Bool.true_and] at hE
          have hLe := hLc.sub (List.sublist_cons_self _ _)
          simp [L_law04_Few_4, K_law04_Few_3, r1, rr, rl, ri, s1, s2, s3, hjl', hw, -Int.natCast_add]
          exact ⟨t.types.length - (i + 1), by omega, i + 1, rfl, by omega, hE, hLe, rfl⟩
    · have hlt' : ¬ (i : Int) < t.types.length := by omega
      rw [List.drop_of_length_le (by omega)] at hE
      simp only [List.all_nil, Bool.true_and] at hE
      subst hE
      simp [L_law04_Few_3, r1, rr, rl, ri, hlt']
      exact few_als la (by rw [xs1.len, xs2]) zs1 zs2 zs3 hl (by simp [r1]) hL

theorem few_nodes {H H' : Hp} {a b c : AV} {t : Tr} {ρ : Rho} {xs : List AV} (xs1 : Vw H 8 a xs) (xs2 : xs.length = t.nodes.length) (xs3 : ∀ (i : Nat) (y : AV) (n : Nd), xs[i]? = some y → t.nodes[i]? = some n → NdR H y n) {ys : List AV} (ys1 : Vw H 6 b ys) (ys2 : ys.length = t.types.length) (ys3 : ∀ (i : Nat) (y : AV) (n : Ty), ys[i]? = some y → t.types[i]? = some n → TyR H y n) {zs : List AV} (zs1 : Vw H 3 c zs) (zs2 : zs.length = t.als.length) (zs3 : ∀ (i : Nat) (y : AV) (n : Al), zs[i]? = some y → t.als[i]? = some n → AlR H y n) (hokT : ∀ n ∈ t.types, n.names.length < 2 ^ 63) (hl : t.nodes.length < 2 ^ 63 ∧ t.types.length < 2 ^ 63 ∧ t.als.length < 2 ^ 63) (hok : ∀ n ∈ t.nodes, n.names.length < 2 ^ 63) (r1 : ρ 1 = .ptr H.l.length 0) (hL : Loc H H' [(H.l.length, .cells [a, b, c] (t_api_Tree N))]) {E : Bool} (hE : (t.nodes.all fewN && (t.types.all fewT && (t.als.all fewA && fewE t))) = E)
    (rr : ρ 14 = a) (rl : ρ 15 = avInt .i64 (t.nodes.length : Nat)) (ri : ρ 16 = avInt .i64 (0 : Nat)) :
    wp (lim Γ A) none (.block 0 (.loop (L_law04_Few_1 N))) ρ H' (seqP (lim Γ A) none (K_law04_Few_2 N) (Ends [.inl 2] false H fun p => p = (avBool E, none))) := by
  simp only [wp_block]
  refine wp_round (n := t.nodes.length) (fun q ρ H' => ∃ i : Nat, ρ 1 = .ptr H.l.length 0 ∧ ρ 14 = a ∧ ρ 15 = avInt .i64 (t.nodes.length : Nat) ∧ ρ 16 = avInt .i64 (i : Nat) ∧ i ≤ t.nodes.length ∧ ((t.nodes.drop i).all fewN && (t.types.all fewT && (t.als.all fewA && fewE t))) = E ∧ Loc H H' [(H.l.length, .cells [a, b, c] (t_api_Tree N))] ∧ q = t.nodes.length - i) ?_ ?_
  · exact ⟨0, r1, rr, rl, ri, by omega, hE, hL, rfl⟩
  · rintro q ρ H' ⟨i, r1, rr, rl, ri, hi, hE, hL, rfl⟩
    by_cases hlt : i < t.nodes.length
    · have hlt' : (i : Int) < t.nodes.length := by omega
      have hw : IntKind.wrap .i64 ((i : Int) + 1) = ((i + 1 : Nat) : Int) := by rw [wrap64 (by omega) (by omega)]; omega
      have hxi : xs[i]? = some xs[i] := List.getElem?_eq_getElem (by omega)
      obtain ⟨sa, sb, sc, ey, vsa, vsb, vsc⟩ := xs3 i _ _ hxi (List.getElem?_eq_getElem hlt)
      have okn := hok _ (List.getElem_mem hlt)
      rw [ey] at hxi
      rw [drop_all hlt] at hE
      generalize t.nodes[i] = n at *
      obtain ⟨p, p1, p2⟩ := (xs1.loc hL).ats (k := .i64) hxi (by rfl) (by simp [vsa.one, vsb.one, vsc.one])
      have hLc := (hL.alloc (.cells [.lit (.int .i64 0), .lit (.int .i64 0), .lit (.string (mkS [])), .lit (.int .i64 0), .lit (.int .u64 0), .lit (.slice none 0 0), .lit (.slice none 0 0), .lit (.slice none 0 0)] (t_api_Node N))).set (.cells [avInt .i64 n.kind, avInt .i64 n.pos, avStr n.name, avInt .i64 n.int, avInt .u64 n.bits, sa, sb, sc] (t_api_Node N))
      have hLd := hLc.sub (List.sublist_cons_self _ _)
      have f1 := settle_keeps (v := avBool false) hLd.keeps (by simp [AV.under])
      by_cases d0 : 20 < n.names.length
      · have d0' : (20 : Int) < n.names.length := by omega
        have hf : fewN n = false := by unfold fewN; simp; omega
        have hE2 : E = false := by rw [← hE, hf, Bool.false_and, Bool.false_and]
        subst hE2
        simp [L_law04_Few_1, r1, rr, rl, ri, hlt', p1, p2, vsa.one, vsb.one, vsc.one, VS.len vsa, VI.len vsb, VI.len vsc, setFrom, loadC, d0, d0', -hset_d, -halloc_d]
        exact f1
      have d0' : ¬ (20 : Int) < n.names.length := by omega
      by_cases d1 : 20 < n.kids.length
      · have d1' : (20 : Int) < n.kids.length := by omega
        have hf : fewN n = false := by unfold fewN; simp; omega
        have hE2 : E = false := by rw [← hE, hf, Bool.false_and, Bool.false_and]
        subst hE2
        simp [L_law04_Few_1, r1, rr, rl, ri, hlt', p1, p2, vsa.one, vsb.one, vsc.one, VS.len vsa, VI.len vsb, VI.len vsc, setFrom, loadC, d0, d0', d1, d1', -hset_d, -halloc_d]
        exact f1
      have d1' : ¬ (20 : Int) < n.kids.length := by omega
      by_cases d2 : 20 < n.types.length
      · have d2' : (20 : Int) < n.types.length := by omega
        have hf : fewN n = false := by unfold fewN; simp; omega
        have hE2 : E = false := by rw [← hE, hf, Bool.false_and, Bool.false_and]
        subst hE2
        simp [L_law04_Few_1, r1, rr, rl, ri, hlt', p1, p2, vsa.one, vsb.one, vsc.one, VS.len vsa, VI.len vsb, VI.len vsc, setFrom, loadC, d0, d0', d1, d1', d2, d2', -hset_d, -halloc_d]
        exact f1
      have d2' : ¬ (20 : Int) < n.types.length := by omega
      by_cases d3 : 60 < n.name.length
      · have d3' : (60 : Int) < n.name.length := by omega
        have hf : fewN n = false := by unfold fewN; simp; omega
        have hE2 : E = false := by rw [← hE, hf, Bool.false_and, Bool.false_and]
        subst hE2
        simp [L_law04_Few_1, r1, rr, rl, ri, hlt', p1, p2, vsa.one, vsb.one, vsc.one, VS.len vsa, VI.len vsb, VI.len vsc, setFrom, loadC, d0, d0', d1, d1', d2, d2', d3, d3', -hset_d, -halloc_d]
        exact f1
      have d3' : ¬ (60 : Int) < n.name.length := by omega
      have hf : fewN n = n.names.all le60 := by
        have : (decide (n.names.length ≤ 20) && decide (n.kids.length ≤ 20) && decide (n.types.length ≤ 20) && decide (n.name.length ≤ 60)) = true := by simp; omega
        unfold fewN; rw [this, Bool.true_and]
      rw [hf] at hE
      simp [L_law04_Few_1, r1, rr, rl, ri, hlt', p1, p2, vsa.one, vsb.one, vsc.one, VS.len vsa, VI.len vsb, VI.len vsc, setFrom, loadC, d0, d0', d1, d1', d2, d2', d3, d3', -hset_d, -halloc_d]
      generalize hHc : hset (halloc H' _) H'.l.length _ = Hc
      rw [hHc] at hLc
      refine wp_round (n := n.names.length) (fun q ρ G => ∃ j : Nat, ρ 1 = .ptr H.l.length 0 ∧ ρ 14 = a ∧ ρ 15 = avInt .i64 (t.nodes.length : Nat) ∧ ρ 16 = avInt .i64 (i : Nat) ∧ ρ 43 = sa ∧ ρ 44 = avInt .i64 (n.names.length : Nat) ∧ ρ 45 = avInt .i64 (j : Nat) ∧ j ≤ n.names.length ∧ G = Hc ∧ ((n.names.drop j).all le60 && (t.nodes.drop (i + 1)).all fewN && (t.types.all fewT && (t.als.all fewA && fewE t))) = E ∧ q = n.names.length - j) ?_ ?_
      · exact ⟨0, r1, rr, rl, ri, rfl, rfl, rfl, by omega, rfl, hE, rfl⟩
      · rintro q ρ G ⟨j, r1, rr, rl, ri, s1, s2, s3, hj, rfl, hE, rfl⟩
        by_cases hjl : j < n.names.length
        · have hjl' : (j : Int) < n.names.length := by omega
          have hwj : IntKind.wrap .i64 ((j : Int) + 1) = ((j + 1 : Nat) : Int) := by have := okn; rw [wrap64 (by omega) (by omega)]; omega
          obtain ⟨pq, q1, q2⟩ := (vsa.loc hLc).at' (k := .i64) (i := (j : Int)) (e := avStr n.names[j]) (by omega) (by simp [List.getElem?_eq_getElem hjl]) rfl rfl rfl
          rw [drop_all hjl] at hE
          generalize n.names[j] = nm at *
          by_cases e1 : 60 < nm.length
          · have e1' : (60 : Int) < nm.length := by omega
            have hf2 : le60 nm = false := decide_eq_false (by omega)
            have hE2 : E = false := by rw [← hE, hf2, Bool.false_and, Bool.false_and, Bool.false_and]
            subst hE2
            have f2 := settle_keeps (v := avBool false) hLc.keeps (by simp [AV.under])
            simp [L_law04_Few_2, r1, rr, rl, ri, s1, s2, s3, hjl', q1, q2, e1, e1']
            exact f2
          · have e1' : ¬ (60 : Int) < nm.length := by omega
            have hf2 : le60 nm = true := decide_eq_true (by omega)
            rw [hf2, Bool.true_and] at hE
            simp [L_law04_Few_2, r1, rr, rl, ri, s1, s2, s3, hjl', q1, q2, e1, e1', hwj, -Int.natCast_add]
            exact ⟨n.names.length - (j + 1), by omega, j + 1, rfl, by omega, hE, rfl⟩
        · have hjl' : ¬ (j : Int) < n.names.length := by omega
          rw [List.drop_of_length_le (by omega)] at hE
          simp only [List.all_nil, Bool.true_and] at hE
          have hLe := hLc.sub (List.sublist_cons_self _ _)
          simp [L_law04_Few_2, K_law04_Few_1, r1, rr, rl, ri, s1, s2, s3, hjl', hw, -Int.natCast_add]
          exact ⟨t.nodes.length - (i + 1), by omega, i + 1, rfl, by omega, hE, hLe, rfl⟩
    · have hlt' : ¬ (i : Int) < t.nodes.length := by omega
      rw [List.drop_of_length_le (by omega)] at hE
      simp only [List.all_nil, Bool.true_and] at hE
      subst hE
      simp [L_law04_Few_1, r1, rr, rl, ri, hlt']
      have hbox := hL.head
      have lb : asLen b = some t.types.length := by rw [ys1.len, ys2]
      simp [K_law04_Few_2, r1, hbox, lb]
      exact few_types (by rw [xs1.len, xs2]) ys1 ys2 ys3 zs1 zs2 zs3 hl hokT (by simp [r1]) hL rfl (by simp) (by simp) (by simp)

theorem few_call (h : Has Γ A (f_law04_Few N) (C_law04_Few N)) {H : Hp} {x : AV} {t : Tr} (hx : TrR H x t) (ok : (∀ n ∈ t.nodes, n.names.length < 2 ^ 63) ∧ ∀ n ∈ t.types, n.names.length < 2 ^ 63) (hl : t.nodes.length < 2 ^ 63 ∧ t.types.length < 2 ^ 63 ∧ t.als.length < 2 ^ 63) : (lim Γ A).call (f_law04_Few N) [x] H = some (avBool (fewB t), none) := by
  obtain ⟨a, b, c, rfl, ⟨xs, xs1, xs2, xs3⟩, ⟨ys, ys1, ys2, ys3⟩, zs, zs1, zs2, zs3⟩ := hx
  have la : asLen a = some t.nodes.length := by rw [xs1.len, xs2]
  have hL := (Loc.start H).alloc (.cells [a, b, c] (t_api_Tree N))
  apply h.call (by rfl)
  simp [C_law04_Few, xs1.one, ys1.one, zs1.one, la, -halloc_d]
  exact few_nodes xs1 xs2 xs3 ys1 ys2 ys3 zs1 zs2 zs3 ok.2 hl ok.1 (by simp) hL rfl (by simp) (by simp) (by simp)
end
end Go.Proofs.Eng
/- The law TreeBuilds, run by the engine: a round of each loop. -/
set_option linter.unusedVariables false
set_option linter.unusedSimpArgs false
set_option maxRecDepth 100000
namespace Go.Proofs.Eng
open Go
theorem TrR.any {H : Hp} {x : AV} {t : Tr} {d : Option Nat} (h : TrR { l := [], d := d } x t) : TrR H x t := h.more fun id o ho => by simp [hget] at ho
theorem Bd.more {N : Nat → Nat} {n0 p : Nat} {H G : Hp} {t : Tr} (h : Bd N n0 H p t) (k : ∀ id o, hget H id = some o → hget G id = some o) : Bd N n0 G p t := by
  obtain ⟨⟨sn, st, sa, hp, r1, r2, r3⟩, hp0⟩ := h
  exact ⟨⟨sn, st, sa, k _ _ hp, r1.keepA (fun _ _ h => h.keepA fun id es e => k id _) (fun id es e => k id _), r2.keepA (fun _ _ h => h.keepA fun id es e => k id _) (fun id es e => k id _), r3.keepA (fun _ _ h => h) (fun id es e => k id _)⟩, hp0⟩
theorem Bd.lt {N : Nat → Nat} {n0 p : Nat} {H : Hp} {t : Tr} (h : Bd N n0 H p t) : p < H.l.length := by
  obtain ⟨⟨sn, st, sa, hp, _⟩, _⟩ := h
  exact hget_lt hp
section
variable {Γ : Sums} {A : Tab} {N : Nat → Nat}
theorem builds_round1 (h : TreeB Γ A N) (ha : Has Γ A (f_p_tree_Builder_Alias N) (C_p_tree_Builder_Alias N)) {n0 p q0 : Nat} {H : Hp} {a b c : AV} {t : Tr} {i : Nat} {qs : List AV} {tq : TypeId} (hx : ∀ G, TrR G (.agg [a, b, c]) t) (ok : t.ok) (hl : t.types.length < 65536) (hB : Bd N n0 H p ⟨[], t.types.take i, []⟩) (hi : i < t.types.length) (hq : hget H q0 = some (.cells qs tq)) (hqp : q0 ≠ p)
    {ρ : Rho} {QQ : AX → Rho → Hp → Prop} (r1 : ρ 1 = .ptr q0 0) (r3 : ρ 3 = .ptr p 0) (r4 : ρ 4 = .lit (.pointer none)) (r31 : ρ 31 = b) (r32 : ρ 32 = avInt .i64 (t.types.length : Nat)) (r33 : ρ 33 = avInt .i64 (i : Nat))
    (hQ : ∀ (ρ' : Rho) (G : Hp), Bd N n0 G p ⟨[], t.types.take (i + 1), []⟩ → hget G q0 = some (.cells qs tq) → ρ' 1 = ρ 1 → ρ' 3 = ρ 3 → ρ' 4 = ρ 4 → ρ' 31 = ρ 31 → ρ' 32 = ρ 32 → ρ' 33 = avInt .i64 ((i + 1 : Nat) : Int) → QQ .nrm ρ' G) :
    wp (lim Γ A) none (L_law04_TreeBuilds_1 N) ρ H QQ := by
  obtain ⟨a', b', c', ee, ra, rb, rc⟩ := hx H
  cases ee
  obtain ⟨xs, x1, x2, x3⟩ := id rb
  obtain ⟨n, hn⟩ : ∃ n, t.types[i]? = some n := ⟨_, List.getElem?_eq_getElem hi⟩
  obtain ⟨na, nb, e0, va, vb⟩ := x3 i xs[i] n (List.getElem?_eq_getElem (by omega)) hn
  have hxi : xs[i]? = some (tyV n na nb) := by rw [List.getElem?_eq_getElem (by omega), e0]
  have pa := va.one
  have pb := vb.one
  obtain ⟨pp, p1, p2⟩ := x1.ats (k := .i64) (ys := [avInt .i64 n.kind, avInt .i64 n.pos, avStr n.name, na, nb, avBool n.opn]) hxi rfl (by simp [pa, pb])
  obtain ⟨Hc, hHc⟩ : ∃ Hc, Hc = hset (halloc H (.cells [.lit (.int .i64 0), .lit (.int .i64 0), .lit (.string (mkS [])), .lit (.slice none 0 0), .lit (.slice none 0 0), .lit (.bool false)] (t_api_TypeNode N))) H.l.length (some (.cells [avInt .i64 n.kind, avInt .i64 n.pos, avStr n.name, na, nb, avBool n.opn] (t_api_TypeNode N))) := ⟨_, rfl⟩
  have hHc' := hHc.symm
  have kHc : ∀ id o, hget H id = some o → hget Hc id = some o := fun id o ho => by
    rw [hHc, hget_hset, if_neg (Nat.ne_of_lt (hget_lt ho)), hget_halloc, if_neg (Nat.ne_of_lt (hget_lt ho))]; exact ho
  have fc : hget Hc H.l.length = some (.cells [avInt .i64 n.kind, avInt .i64 n.pos, avStr n.name, na, nb, avBool n.opn] (t_api_TypeNode N)) := by rw [hHc, hget_hset, if_pos rfl]; simp
  have hxc : TyR Hc (tyV n na nb) n := ⟨na, nb, rfl, va.keepA fun id es e => kHc id _, vb.keepA fun id es e => kHc id _⟩
  have htl : (t.types.take i).length = i := by simp; omega
  obtain ⟨g, e1, k1, k2⟩ := BType_call h (hB.more kHc) hxc (ok.2.1 n (List.mem_of_getElem? hn)) (by simp only [htl]; omega)
  simp only [htl] at e1
  have htake : t.types.take i ++ [n] = t.types.take (i + 1) := by rw [List.take_add_one, hn]; rfl
  simp only [htake] at k1
  have fg := k2.cell _ _ _ fc (by have := hB.lt; omega)
  have fq := k2.cell _ _ _ (kHc _ _ hq) hqp
  have e2 := (none_calls h ha g ⟨0, 0, [], 0, 0, [], [], []⟩ n ⟨[], 0, 0⟩ na nb avNilS pa pb rfl).2.1
  have hlt' : (i : Int) < t.types.length := by omega
  have hw : IntKind.wrap .i64 ((i : Int) + 1) = ((i + 1 : Nat) : Int) := by rw [wrap64 (by omega) (by omega)]; omega
  unfold tyV at e1 e2
  simp [L_law04_TreeBuilds_1, r1, r3, r4, r31, r32, r33, hlt', p1, p2, pa, pb, hHc', fc, e1, e2, fg, bindH_opt, loadC, hw, -hset_d, -halloc_d, -Int.natCast_add]
  exact hQ _ _ k1 fq (by simp [upd_at]) (by simp [upd_at, r3]) (by simp [upd_at, r4]) (by simp [upd_at, r31]) (by simp [upd_at, r32]) (by simp [upd_at])
theorem builds_round2 (h : TreeB Γ A N) (ha : Has Γ A (f_p_tree_Builder_Alias N) (C_p_tree_Builder_Alias N)) {n0 p q0 : Nat} {H : Hp} {a b c : AV} {t : Tr} {i : Nat} {qs : List AV} {tq : TypeId} (hx : ∀ G, TrR G (.agg [a, b, c]) t) (ok : t.ok) (hl : t.nodes.length < 65536) (hB : Bd N n0 H p ⟨t.nodes.take i, t.types, []⟩) (hi : i < t.nodes.length) (hq : hget H q0 = some (.cells qs tq)) (hqp : q0 ≠ p)
    {ρ : Rho} {QQ : AX → Rho → Hp → Prop} (r1 : ρ 1 = .ptr q0 0) (r3 : ρ 3 = .ptr p 0) (r4 : ρ 4 = .lit (.pointer none)) (r31 : ρ 63 = a) (r32 : ρ 64 = avInt .i64 (t.nodes.length : Nat)) (r33 : ρ 65 = avInt .i64 (i : Nat))
    (hQ : ∀ (ρ' : Rho) (G : Hp), Bd N n0 G p ⟨t.nodes.take (i + 1), t.types, []⟩ → hget G q0 = some (.cells qs tq) → ρ' 1 = ρ 1 → ρ' 3 = ρ 3 → ρ' 4 = ρ 4 → ρ' 63 = ρ 63 → ρ' 64 = ρ 64 → ρ' 65 = avInt .i64 ((i + 1 : Nat) : Int) → QQ .nrm ρ' G) :
    wp (lim Γ A) none (L_law04_TreeBuilds_2 N) ρ H QQ := by
  obtain ⟨a', b', c', ee, ra, rb, rc⟩ := hx H
  cases ee
  obtain ⟨xs, x1, x2, x3⟩ := id ra
  obtain ⟨n, hn⟩ : ∃ n, t.nodes[i]? = some n := ⟨_, List.getElem?_eq_getElem hi⟩
  obtain ⟨na, nb, nc, e0, va, vb, vc⟩ := x3 i xs[i] n (List.getElem?_eq_getElem (by omega)) hn
  have hxi : xs[i]? = some (ndV n na nb nc) := by rw [List.getElem?_eq_getElem (by omega), e0]
  have pa := va.one
  have pb := vb.one
  have pc := vc.one
  obtain ⟨pp, p1, p2⟩ := x1.ats (k := .i64) (ys := [avInt .i64 n.kind, avInt .i64 n.pos, avStr n.name, avInt .i64 n.int, avInt .u64 n.bits, na, nb, nc]) hxi rfl (by simp [pa, pb, pc])
  obtain ⟨Hc, hHc⟩ : ∃ Hc, Hc = hset (halloc H (.cells [.lit (.int .i64 0), .lit (.int .i64 0), .lit (.string (mkS [])), .lit (.int .i64 0), .lit (.int .u64 0), .lit (.slice none 0 0), .lit (.slice none 0 0), .lit (.slice none 0 0)] (t_api_Node N))) H.l.length (some (.cells [avInt .i64 n.kind, avInt .i64 n.pos, avStr n.name, avInt .i64 n.int, avInt .u64 n.bits, na, nb, nc] (t_api_Node N))) := ⟨_, rfl⟩
  have hHc' := hHc.symm
  have kHc : ∀ id o, hget H id = some o → hget Hc id = some o := fun id o ho => by
    rw [hHc, hget_hset, if_neg (Nat.ne_of_lt (hget_lt ho)), hget_halloc, if_neg (Nat.ne_of_lt (hget_lt ho))]; exact ho
  have fc : hget Hc H.l.length = some (.cells [avInt .i64 n.kind, avInt .i64 n.pos, avStr n.name, avInt .i64 n.int, avInt .u64 n.bits, na, nb, nc] (t_api_Node N)) := by rw [hHc, hget_hset, if_pos rfl]; simp
  have hxc : NdR Hc (ndV n na nb nc) n := ⟨na, nb, nc, rfl, va.keepA fun id es e => kHc id _, vb.keepA fun id es e => kHc id _, vc.keepA fun id es e => kHc id _⟩
  have htl : (t.nodes.take i).length = i := by simp; omega
  obtain ⟨g, e1, k1, k2⟩ := Term_call h (hB.more kHc) hxc (ok.1 n (List.mem_of_getElem? hn)) (by simp only [htl]; omega)
  simp only [htl] at e1
  have htake : t.nodes.take i ++ [n] = t.nodes.take (i + 1) := by rw [List.take_add_one, hn]; rfl
  simp only [htake] at k1
  have fg := k2.cell _ _ _ fc (by have := hB.lt; omega)
  have fq := k2.cell _ _ _ (kHc _ _ hq) hqp
  have e2 := (none_calls h ha g n ⟨0, 0, [], [], [], false⟩ ⟨[], 0, 0⟩ na nb nc pa pb pc).1
  have hlt' : (i : Int) < t.nodes.length := by omega
  have hw : IntKind.wrap .i64 ((i : Int) + 1) = ((i + 1 : Nat) : Int) := by rw [wrap64 (by omega) (by omega)]; omega
  unfold ndV at e1 e2
  simp [L_law04_TreeBuilds_2, r1, r3, r4, r31, r32, r33, hlt', p1, p2, pa, pb, pc, hHc', fc, e1, e2, fg, bindH_opt, loadC, hw, -hset_d, -halloc_d, -Int.natCast_add]
  exact hQ _ _ k1 fq (by simp [upd_at]) (by simp [upd_at, r3]) (by simp [upd_at, r4]) (by simp [upd_at, r31]) (by simp [upd_at, r32]) (by simp [upd_at])
theorem builds_round3 (h : TreeB Γ A N) (ha : Has Γ A (f_p_tree_Builder_Alias N) (C_p_tree_Builder_Alias N)) {n0 p q0 : Nat} {H : Hp} {a b c : AV} {t : Tr} {i : Nat} {qs : List AV} {tq : TypeId} (hx : ∀ G, TrR G (.agg [a, b, c]) t) (hl : t.als.length < 2 ^ 30) (hB : Bd N n0 H p ⟨t.nodes, t.types, t.als.take i⟩) (hi : i < t.als.length) (hq : hget H q0 = some (.cells qs tq)) (hqp : q0 ≠ p)
    {ρ : Rho} {QQ : AX → Rho → Hp → Prop} (r1 : ρ 1 = .ptr q0 0) (r3 : ρ 3 = .ptr p 0) (r4 : ρ 4 = .lit (.pointer none)) (r31 : ρ 95 = c) (r32 : ρ 96 = avInt .i64 (t.als.length : Nat)) (r33 : ρ 97 = avInt .i64 (i : Nat))
    (hQ : ∀ (ρ' : Rho) (G : Hp), Bd N n0 G p ⟨t.nodes, t.types, t.als.take (i + 1)⟩ → hget G q0 = some (.cells qs tq) → ρ' 1 = ρ 1 → ρ' 3 = ρ 3 → ρ' 4 = ρ 4 → ρ' 95 = ρ 95 → ρ' 96 = ρ 96 → ρ' 97 = avInt .i64 ((i + 1 : Nat) : Int) → QQ .nrm ρ' G) :
    wp (lim Γ A) none (L_law04_TreeBuilds_3 N) ρ H QQ := by
  obtain ⟨a', b', c', ee, ra, rb, rc⟩ := hx H
  cases ee
  obtain ⟨xs, x1, x2, x3⟩ := id rc
  obtain ⟨n, hn⟩ : ∃ n, t.als[i]? = some n := ⟨_, List.getElem?_eq_getElem hi⟩
  have e0 := x3 i xs[i] n (List.getElem?_eq_getElem (by omega)) hn
  have hxi : xs[i]? = some (alV n) := by rw [List.getElem?_eq_getElem (by omega), e0]
  obtain ⟨pp, p1, p2⟩ := x1.ats (k := .i64) (ys := [avStr n.name, avInt .i64 n.type, avInt .i64 n.pos]) hxi rfl rfl
  obtain ⟨Hc, hHc⟩ : ∃ Hc, Hc = hset (halloc H (.cells [.lit (.string (mkS [])), .lit (.int .i64 0), .lit (.int .i64 0)] (t_api_Alias N))) H.l.length (some (.cells [avStr n.name, avInt .i64 n.type, avInt .i64 n.pos] (t_api_Alias N))) := ⟨_, rfl⟩
  have hHc' := hHc.symm
  have kHc : ∀ id o, hget H id = some o → hget Hc id = some o := fun id o ho => by
    rw [hHc, hget_hset, if_neg (Nat.ne_of_lt (hget_lt ho)), hget_halloc, if_neg (Nat.ne_of_lt (hget_lt ho))]; exact ho
  have fc : hget Hc H.l.length = some (.cells [avStr n.name, avInt .i64 n.type, avInt .i64 n.pos] (t_api_Alias N)) := by rw [hHc, hget_hset, if_pos rfl]; simp
  have htl : (t.als.take i).length = i := by simp; omega
  obtain ⟨g, e1, k1, k2⟩ := BAlias_call ha (n := n) (hB.more kHc) (by simp only [htl]; omega)
  have htake : t.als.take i ++ [n] = t.als.take (i + 1) := by rw [List.take_add_one, hn]; rfl
  simp only [htake] at k1
  have fg := k2.cell _ _ _ fc (by have := hB.lt; omega)
  have fq := k2.cell _ _ _ (kHc _ _ hq) hqp
  have e2 := (none_calls h ha g ⟨0, 0, [], 0, 0, [], [], []⟩ ⟨0, 0, [], [], [], false⟩ n avNilS avNilS avNilS rfl rfl rfl).2.2.1
  have hlt' : (i : Int) < t.als.length := by omega
  have hw : IntKind.wrap .i64 ((i : Int) + 1) = ((i + 1 : Nat) : Int) := by rw [wrap64 (by omega) (by omega)]; omega
  unfold alV at e1 e2
  simp [L_law04_TreeBuilds_3, r1, r3, r4, r31, r32, r33, hlt', p1, p2, hHc', fc, e1, e2, fg, bindH_opt, loadC, hw, -hset_d, -halloc_d, -Int.natCast_add]
  exact hQ _ _ k1 fq (by simp [upd_at]) (by simp [upd_at, r3]) (by simp [upd_at, r4]) (by simp [upd_at, r31]) (by simp [upd_at, r32]) (by simp [upd_at])
end
end Go.Proofs.Eng
/- The law TreeBuilds, run by the engine. -/
set_option linter.unusedVariables false
set_option linter.unusedSimpArgs false
set_option maxRecDepth 100000
namespace Go.Proofs.Eng
open Go
theorem few_ok {t : Tr} (h : fewB t = true) : (t.nodes.length < 65536 ∧ t.types.length < 65536 ∧ t.als.length < 2 ^ 30) ∧ t.ok := by
  unfold fewB fewE at h
  simp only [Bool.and_eq_true, decide_eq_true_eq, List.all_eq_true] at h
  obtain ⟨h1, h2, h3, h4⟩ := h
  refine ⟨by omega, fun n hn => ?_, fun n hn => ?_, fun n hn => ?_⟩
  · have := h1 n hn
    unfold fewN at this
    simp only [Bool.and_eq_true, decide_eq_true_eq, List.all_eq_true, le60] at this
    obtain ⟨⟨⟨⟨e1, e2⟩, e3⟩, e4⟩, e5⟩ := this
    exact ⟨by omega, fun s hs => by have := e5 s hs; omega, by omega, by omega, by omega⟩
  · have := h2 n hn
    unfold fewT at this
    simp only [Bool.and_eq_true, decide_eq_true_eq, List.all_eq_true, le60] at this
    obtain ⟨⟨⟨e1, e2⟩, e4⟩, e5⟩ := this
    exact ⟨by omega, fun s hs => by have := e5 s hs; omega, by omega, by omega⟩
  · have := h3 n hn
    unfold fewA at this
    simp only [decide_eq_true_eq] at this
    show n.name.length < 2 ^ 30
    omega
section
variable {Γ : Sums} {A : Tab} {N : Nat → Nat}
structure BuildsC (Γ : Sums) (A : Tab) (N : Nat → Nat) : Prop where
  check : TreeC Γ A N
  two : TwoC Γ A N
  same : Has Γ A (f_tree_Same N) (C_tree_Same N)
  b : TreeB Γ A N
  alias : Has Γ A (f_p_tree_Builder_Alias N) (C_p_tree_Builder_Alias N)
  few : Has Γ A (f_law04_Few N) (C_law04_Few N)
  law : Has Γ A (f_law04_TreeBuilds N) (C_law04_TreeBuilds N)
theorem New_tree2 (h : TreeB Γ A N) (B : Hp) : (lim Γ A).call (f_tree_New N) [] B = some (.ptr B.l.length 0, some { l := B.l ++ [some (.cells [avNilS, avNilS, avNilS] (t_tree_Builder N))], d := dminO B.d none }) := by
  apply h.new.call (by rfl)
  simp [C_tree_New, setFrom]
  rw [settle_some (by simp [AV.under])]
  simp [halloc, hset]
theorem BRow.empty {α : Type} {Q : Hp → AV → α → Prop} {H : Hp} {n0 : Nat} {e : TypeId} {sz : Nat} : BRow Q H n0 e sz avNilS ([] : List α) := ⟨⟨[], .inl ⟨rfl, rfl⟩, rfl, fun i y n h => by simp at h, rfl⟩, fun id hk => by cases hk⟩
theorem law_TreeBuilds (h : BuildsC Γ A N) {a b c : AV} {t : Tr} (hlives : (lim Γ A).call (f_law04_lives N) [] { l := [some (.cells [a, b, c] (t_api_Tree N))], d := none } = some (avBool true, none)) (hx : TrR { l := [], d := none } (.agg [a, b, c]) t) (ok0 : (∀ n ∈ t.nodes, n.names.length < 2 ^ 63) ∧ ∀ n ∈ t.types, n.names.length < 2 ^ 63)
    (hb0 : t.nodes.length < 2 ^ 63 ∧ t.types.length < 2 ^ 63 ∧ t.als.length < 2 ^ 63) :
    ∃ r, (lim Γ A).ent (f_law04_TreeBuilds N) [.agg [a, b, c]] { l := [], d := none } = some r ∧ r.1 = avBool true := by
  have hxa : ∀ G, TrR G (.agg [a, b, c]) t := fun G => hx.any
  obtain ⟨Hb, hHb⟩ : ∃ Hb, Hb = halloc { l := [], d := none } (.cells [a, b, c] (t_api_Tree N)) := ⟨_, rfl⟩
  have hl1 : (lim Γ A).call (f_law04_lives N) [] Hb = some (avBool true, none) := by rw [hHb]; exact hlives
  obtain ⟨a', b', c', e, ra, rb, rc⟩ := id hx
  cases e
  have pa := ra.one
  have pb := rb.one
  have pc := rc.one
  have la := ra.len
  have lb := rb.len
  have lc := rc.len
  have hbox : hget Hb 0 = some (.cells [a, b, c] (t_api_Tree N)) := by subst hHb; rfl
  have hHb' : halloc { l := [], d := none } (.cells [a, b, c] (t_api_Tree N)) = Hb := hHb.symm
  have hlb : Hb.l.length = 1 := by subst hHb; rfl
  have hfew := few_call h.few (hxa Hb) ok0 hb0
  apply h.law.entP (by rfl)
  rcases hf : fewB t with _ | _
  · rw [hf] at hfew
    simp [C_law04_TreeBuilds, pa, pb, pc, hHb', hl1, hbox, hfew, loadC, -halloc_d, -hset_d]
  · rw [hf] at hfew
    obtain ⟨hb, ok⟩ := few_ok hf
    have hnew := New_tree2 h.b Hb
    obtain ⟨G0, hG0⟩ : ∃ G0 : Hp, G0 = { l := Hb.l ++ [some (.cells [avNilS, avNilS, avNilS] (t_tree_Builder N))], d := dminO Hb.d none } := ⟨_, rfl⟩
    rw [← hG0, hlb] at hnew
    have hG1 : hget G0 1 = some (.cells [avNilS, avNilS, avNilS] (t_tree_Builder N)) := by rw [hG0, hHb]; rfl
    have hG2 : hget G0 0 = some (.cells [a, b, c] (t_api_Tree N)) := by rw [hG0, hHb]; rfl
    have hB0 : Bd N 1 G0 1 ⟨[], t.types.take 0, []⟩ := ⟨⟨_, _, _, hG1, BRow.empty, BRow.empty, BRow.empty⟩, Nat.le_refl _⟩
    simp [C_law04_TreeBuilds, pa, pb, pc, hHb', hl1, hbox, hfew, hnew, bindH_opt, hG2, lb, loadC, -halloc_d, -hset_d]
    refine wp_round (n := t.types.length) (fun m ρ H' => ∃ i : Nat, ρ 1 = .ptr 0 0 ∧ ρ 3 = .ptr 1 0 ∧ ρ 4 = .lit (.pointer none) ∧ ρ 31 = b ∧ ρ 32 = avInt .i64 (t.types.length : Nat) ∧ ρ 33 = avInt .i64 (i : Nat) ∧ i ≤ t.types.length ∧ Bd N 1 H' 1 ⟨[], t.types.take i, []⟩ ∧ hget H' 0 = some (.cells [a, b, c] (t_api_Tree N)) ∧ m = t.types.length - i) ⟨0, rfl, rfl, rfl, rfl, rfl, rfl, by omega, hB0, hG2, rfl⟩ ?_
    rintro m ρ H' ⟨i, r1, r3, r4, r31, r32, r33, hi, hB, hq, rfl⟩
    by_cases hlt : i < t.types.length
    · refine builds_round1 (a := a) (b := b) (c := c) h.b h.alias hxa ok hb.2.1 hB hlt hq (by omega) r1 r3 r4 r31 r32 r33 ?_
      intro ρ' G k1 k2 k3 k4 k5 k6 k7 k8
      exact ⟨t.types.length - (i + 1), by omega, i + 1, by rw [k3]; exact r1, by rw [k4]; exact r3, by rw [k5]; exact r4, by rw [k6]; exact r31, by rw [k7]; exact r32, k8, by omega, k1, k2, rfl⟩
    have hlt' : ¬ (i : Int) < t.types.length := by omega
    have hi2 : i = t.types.length := by omega
    subst hi2
    rw [List.take_length] at hB
    simp [L_law04_TreeBuilds_1, K_law04_TreeBuilds_1, r1, r3, r4, r31, r32, r33, hlt', hq, la, loadC]
    refine wp_round (n := t.nodes.length) (fun m ρ H' => ∃ i : Nat, ρ 1 = .ptr 0 0 ∧ ρ 3 = .ptr 1 0 ∧ ρ 4 = .lit (.pointer none) ∧ ρ 63 = a ∧ ρ 64 = avInt .i64 (t.nodes.length : Nat) ∧ ρ 65 = avInt .i64 (i : Nat) ∧ i ≤ t.nodes.length ∧ Bd N 1 H' 1 ⟨t.nodes.take i, t.types, []⟩ ∧ hget H' 0 = some (.cells [a, b, c] (t_api_Tree N)) ∧ m = t.nodes.length - i) ⟨0, r1, r3, r4, rfl, rfl, rfl, by omega, hB, hq, rfl⟩ ?_
    rintro m ρ H' ⟨i, r1, r3, r4, r63, r64, r65, hi, hB, hq, rfl⟩
    by_cases hlt : i < t.nodes.length
    · refine builds_round2 (a := a) (b := b) (c := c) h.b h.alias hxa ok hb.1 hB hlt hq (by omega) r1 r3 r4 r63 r64 r65 ?_
      intro ρ' G k1 k2 k3 k4 k5 k6 k7 k8
      exact ⟨t.nodes.length - (i + 1), by omega, i + 1, by rw [k3]; exact r1, by rw [k4]; exact r3, by rw [k5]; exact r4, by rw [k6]; exact r63, by rw [k7]; exact r64, k8, by omega, k1, k2, rfl⟩
    have hlt' : ¬ (i : Int) < t.nodes.length := by omega
    have hi2 : i = t.nodes.length := by omega
    subst hi2
    rw [List.take_length] at hB
    simp [L_law04_TreeBuilds_2, K_law04_TreeBuilds_2, r1, r3, r4, r63, r64, r65, hlt', hq, lc, loadC]
    refine wp_round (n := t.als.length) (fun m ρ H' => ∃ i : Nat, ρ 1 = .ptr 0 0 ∧ ρ 3 = .ptr 1 0 ∧ ρ 4 = .lit (.pointer none) ∧ ρ 95 = c ∧ ρ 96 = avInt .i64 (t.als.length : Nat) ∧ ρ 97 = avInt .i64 (i : Nat) ∧ i ≤ t.als.length ∧ Bd N 1 H' 1 ⟨t.nodes, t.types, t.als.take i⟩ ∧ hget H' 0 = some (.cells [a, b, c] (t_api_Tree N)) ∧ m = t.als.length - i) ⟨0, r1, r3, r4, rfl, rfl, rfl, by omega, hB, hq, rfl⟩ ?_
    rintro m ρ H' ⟨i, r1, r3, r4, r95, r96, r97, hi, hB, hq, rfl⟩
    by_cases hlt : i < t.als.length
    · refine builds_round3 (a := a) (b := b) (c := c) h.b h.alias hxa hb.2.2 hB hlt hq (by omega) r1 r3 r4 r95 r96 r97 ?_
      intro ρ' G k1 k2 k3 k4 k5 k6 k7 k8
      exact ⟨t.als.length - (i + 1), by omega, i + 1, by rw [k3]; exact r1, by rw [k4]; exact r3, by rw [k5]; exact r4, by rw [k6]; exact r95, by rw [k7]; exact r96, k8, by omega, k1, k2, rfl⟩
    have hlt' : ¬ (i : Int) < t.als.length := by omega
    have hi2 : i = t.als.length := by omega
    subst hi2
    rw [List.take_length] at hB
    have hb1 : t.nodes.length < 2 ^ 30 := by omega
    have hb2 : t.types.length < 2 ^ 30 := by omega
    obtain ⟨y, g, e1, y1, y2⟩ := BTree_call h.b hB ok ⟨hb1, hb2, hb.2.2⟩
    obtain ⟨HT, hHT⟩ : ∃ HT, HT = g.getD H' := ⟨_, rfl⟩
    have hHT' := hHT.symm
    rw [← hHT] at y1 y2
    obtain ⟨ya, yb, yc, rfl, sa, sb, sc⟩ := id y1
    have qa := sa.one
    have qb := sb.one
    have qc := sc.one
    have ka := sa.len
    have kb2 := sb.len
    have kc := sc.len
    obtain ⟨HU, hHU⟩ : ∃ HU, HU = hset (halloc HT (.cells [avNilS, avNilS, avNilS] (t_api_Tree N))) HT.l.length (some (.cells [ya, yb, yc] (t_api_Tree N))) := ⟨_, rfl⟩
    have kU : ∀ id o, hget HT id = some o → hget HU id = some o := fun id o ho => by
      rw [hHU, hget_hset, if_neg (Nat.ne_of_lt (hget_lt ho)), hget_halloc, if_neg (Nat.ne_of_lt (hget_lt ho))]; exact ho
    have u1 : hget HU HT.l.length = some (.cells [ya, yb, yc] (t_api_Tree N)) := by rw [hHU, hget_hset, if_pos rfl]; simp
    have u2 : hget HU 0 = some (.cells [a, b, c] (t_api_Tree N)) := kU _ _ (y2.get' hq (by simp))
    have hyU : TrR HU (.agg [ya, yb, yc]) t := y1.more kU
    have hHU' := hHU.symm
    simp only [avNilS] at hHU'
    have c1 := check_call h.check (H := { l := HU.l, d := none }) (hyU.more fun id o ho => ho) ok ⟨by omega, by omega, hb.2.2⟩
    have c2 := check_call h.check (H := HU) (hxa HU) ok ⟨by omega, by omega, hb.2.2⟩
    have c3 := (none_calls h.b h.alias HU ⟨0, 0, [], 0, 0, [], [], []⟩ ⟨0, 0, [], [], [], false⟩ ⟨[], 0, 0⟩ avNilS avNilS avNilS rfl rfl rfl).2.2.2
    unfold errN at c1 c2
    simp [L_law04_TreeBuilds_3, K_law04_TreeBuilds_3, r1, r3, r4, r95, r96, r97, hlt', e1, bindH_opt, hHT', hHU', qa, qb, qc, u1, u2, pa, pb, pc, c1, c2, c3, ka, kb2, kc, la, lb, lc, loadC, afield, apart, avNilS, -halloc_d, -hset_d]
    have c2' := check_call h.check (H := HU) (hxa HU) ok ⟨by omega, by omega, hb.2.2⟩
    refine wp_round (n := t.nodes.length) (fun m ρ H' => ∃ i : Nat, ρ 1 = .ptr 0 0 ∧ ρ 19 = .ptr HT.l.length 0 ∧ ρ 151 = avInt .i64 (t.nodes.length : Nat) ∧ ρ 152 = avInt .i64 (i : Nat) ∧ i ≤ t.nodes.length ∧ H' = HU ∧ m = t.nodes.length - i) ⟨0, r1, rfl, rfl, rfl, by omega, rfl, rfl⟩ ?_
    rintro m ρ H' ⟨i, r1, r19, r151, r152, hi, rfl, rfl⟩
    by_cases hlt : i < t.nodes.length
    · have hlt2 : (i : Int) < t.nodes.length := by omega
      obtain ⟨n, hn⟩ : ∃ n, t.nodes[i]? = some n := ⟨_, List.getElem?_eq_getElem hlt⟩
      obtain ⟨_, _, _, ee, ⟨zs, z1, z2, z3⟩, _, _⟩ := hyU
      cases ee
      obtain ⟨_, _, _, ee, ⟨ws, w1, w2, w3⟩, _, _⟩ := hxa H'
      cases ee
      obtain ⟨m1, m2, m3, e3, v1, v2, v3⟩ := z3 i zs[i] n (List.getElem?_eq_getElem (by omega)) hn
      obtain ⟨n1, n2, n3, e4, v4, v5, v6⟩ := w3 i ws[i] n (List.getElem?_eq_getElem (by omega)) hn
      have p1 : zs[i]? = some (.agg [avInt .i64 n.kind, avInt .i64 n.pos, avStr n.name, avInt .i64 n.int, avInt .u64 n.bits, m1, m2, m3]) := by rw [List.getElem?_eq_getElem (by omega), e3]; rfl
      have p2 : ws[i]? = some (.agg [avInt .i64 n.kind, avInt .i64 n.pos, avStr n.name, avInt .i64 n.int, avInt .u64 n.bits, n1, n2, n3]) := by rw [List.getElem?_eq_getElem (by omega), e4]; rfl
      obtain ⟨x1, x2, s1, s2, s3⟩ := z1.atf (k := .i64) (off := 0) p1 rfl (by simp [v1.one, v2.one, v3.one]) rfl
      obtain ⟨x3, x4, s4, s5, s6⟩ := z1.atf (k := .i64) (off := 1) p1 rfl (by simp [v1.one, v2.one, v3.one]) rfl
      obtain ⟨x5, x6, s7, s8, s9⟩ := w1.atf (k := .i64) (off := 0) p2 rfl (by simp [v4.one, v5.one, v6.one]) rfl
      obtain ⟨x7, x8, s10, s11, s12⟩ := w1.atf (k := .i64) (off := 1) p2 rfl (by simp [v4.one, v5.one, v6.one]) rfl
      have hu : x1 = x3 := by rw [s1] at s4; exact Option.some.inj s4
      have hu' : x5 = x7 := by rw [s7] at s10; exact Option.some.inj s10
      subst hu
      subst hu'
      have hw : IntKind.wrap .i64 ((i : Int) + 1) = ((i + 1 : Nat) : Int) := by rw [wrap64 (by omega) (by omega)]; omega
      simp [L_law04_TreeBuilds_4, r1, r19, r151, r152, hlt2, u1, u2, qa, qb, qc, pa, pb, pc, s1, s2, s3, s5, s6, s7, s8, s9, s11, s12, loadC, hw, -Int.natCast_add]
      exact ⟨t.nodes.length - (i + 1), by omega, i + 1, rfl, by omega, rfl⟩
    · have hlt2 : ¬ (i : Int) < t.nodes.length := by omega
      cases hck : checkB t with
      | false =>
        rw [hck] at c2'
        have c4 : (lim Γ A).call (f_tree_Check N) [.agg [a, b, c]] H' = some (avInt .i64 14, none) := c2'
        simp [L_law04_TreeBuilds_4, K_law04_TreeBuilds_4, r1, r19, r151, r152, hlt2, u1, u2, qa, qb, qc, pa, pb, pc, c4, loadC]
      | true =>
        rw [hck] at c2'
        have c4 : (lim Γ A).call (f_tree_Check N) [.agg [a, b, c]] H' = some (avInt .i64 0, none) := c2'
        have c5 := same_call h.check h.two h.same hyU (hxa H') ok ⟨by omega, by omega, hb.2.2⟩ hck
        simp [L_law04_TreeBuilds_4, K_law04_TreeBuilds_4, r1, r19, r151, r152, hlt2, u1, u2, qa, qb, qc, pa, pb, pc, c4, c5, loadC]
end
end Go.Proofs.Eng
