/- The engine, part AB: the weakest precondition of resolved code, temporaries as a function. -/
import Derived.Test.YtchbifaiofljdaaEngAA
set_option linter.unusedVariables false
set_option linter.unusedSimpArgs false
namespace Go.Proofs.Eng
open Go Go.RowKit

/-- Temporaries as a function. -/
abbrev Rho := Nat → AV
def rho (τ : List AV) : Rho := fun i => τ.getD i avU
def upd (ρ : Rho) (n : Nat) (v : AV) : Rho := fun m => if m = n then v else ρ m
@[simp] theorem upd_same (ρ : Rho) (n : Nat) (v : AV) : upd ρ n v n = v := by simp [upd]
theorem upd_at (ρ : Rho) (n : Nat) (v : AV) (m : Nat) : upd ρ n v m = if m = n then v else ρ m := _root_.id rfl
def updO (ρ : Rho) (d : Option Nat) (v : AV) : Rho := match d with | some n => upd ρ n v | none => ρ
@[simp] theorem updO_some (ρ : Rho) (n : Nat) (v : AV) : updO ρ (some n) v = upd ρ n v := _root_.id rfl
@[simp] theorem updO_none (ρ : Rho) (v : AV) : updO ρ none v = ρ := _root_.id rfl

def evR (ρ : Rho) : Opd → AV
  | .t n => ρ n
  | .c x => x
@[simp] theorem evR_t (ρ : Rho) (n : Nat) : evR ρ (.t n) = ρ n := _root_.id rfl
@[simp] theorem evR_c (ρ : Rho) (x : AV) : evR ρ (.c x) = x := _root_.id rfl

theorem rho_set {τ : List AV} {n : Nat} {v : AV} (h : n < τ.length) : rho (τ.set n v) = upd (rho τ) n v := by
  funext m
  simp only [rho, upd, List.getD_eq_getElem?_getD, List.getElem?_set]
  by_cases e : m = n
  · subst e; simp [h]
  · simp [e, Ne.symm e]
theorem rho_aput {τ : List AV} {d : Option Nat} {v : AV} (h : ∀ n, d = some n → n < τ.length) : rho (aput d v τ) = updO (rho τ) d v := by
  cases d with
  | none => rfl
  | some n => exact rho_set (h n rfl)
theorem aeval_rho (τ : List AV) : aeval τ = evR (rho τ) := by
  funext x; cases x <;> rfl
theorem aput_length (d : Option Nat) (v : AV) (τ : List AV) : (aput d v τ).length = τ.length := by cases d <;> simp [aput]

def aopR (ev : Opd → AV) (H : Hp) : AOp → Option (AV × Option Hp)
  | .mov x => some (ev x, none)
  | .pick c a b =>
    match ev c with
    | .lit (.bool t) => some (if t then ev a else ev b, none)
    | _ => none
  | .box t x => let v := ev x; if v.good then some (.ptr H.l.length 0, some (halloc H (.cells v.cells t))) else none
  | .new t z => if z.good then some (.ptr H.l.length 0, some (halloc H (.cells z.cells t))) else none
  | .build z ps => (fillA z (ps.map fun (o, s, x) => (o, s, ev x))).map fun cs => (.agg cs, none)
  | .bslice e sz lay len z ps =>
    (fillA (repl len z) (ps.map fun (o, s, x) => (o, s, ev x))).bind fun cs =>
      if (chunk sz lay len cs).all (fun y => y.good && y.cells.length == sz && (lay.isSome || y.one)) then some (.ra sz H.l.length 0 len, some (halloc H (.arr sz (chunk sz lay len cs) e))) else none
  | .load n a => (aload H n (ev a)).map fun v => (v, none)
  | .store n a x => (astore H n (ev a) (ev x)).map fun H' => (avU, some H')
  | .nilchk x =>
    if (ev x).isRef then some (ev x, none) else none
  | .bin op x y => (abin op (ev x) (ev y)).map fun v => (v, none)
  | .eq neg d x y => (aeq d (ev x) (ev y)).map fun b => (avBool (if neg then !b else b), none)
  | .un op x => (aun op (ev x)).map fun v => (v, none)
  | .conv c x => aconv H c (ev x)
  | .mkfn f fs cs => some (.fn f (fs.map (ev)) (cs.map (ev)), none)
  | .mkmap => some (.map H.l.length, some (halloc H (.map [] 0)))
  | .mkslice e sz bytes z l c =>
    match ev l, ev c with
    | .lit (.int _ n), .lit (.int _ m) =>
      if 0 ≤ n ∧ n = m ∧ m.toNat * bytes ≤ roomMax ∧ z.good = true ∧ z.cells.length = sz then
        some (.ra sz H.l.length 0 n.toNat, some (halloc H (.arr sz (List.replicate n.toNat z) e)))
      else none
    | _, _ => none
  | .slstr x lo hi => (aslstr (ev x) (lo.map ev) (hi.map (ev))).map fun v => (v, none)
  | .slice sz x lo hi => (aslice sz (ev x) (lo.map ev) (hi.map (ev))).map fun v => (v, none)
  | .faddr off x => (afaddr off (ev x)).map fun v => (v, none)
  | .field off n x => (afield off n (ev x)).map fun v => (v, none)
  | .iaddr sz x i => (aiaddr sz (ev x) (ev i)).map fun v => (v, none)
  | .sidx x i => (asidx (ev x) (ev i)).map fun v => (v, none)
  | .lookup kd z m k ok => (asKey kd (ev k)).bind fun k => (aLookup H kd z ok k (ev m)).map fun v => (v, none)
  | .mapupd kd m k v => (asKey kd (ev k)).bind fun k => (aMapupd H kd k (ev v) (ev m)).map fun H' => (avU, some H')
  | .extract t i =>
    match ev t with
    | .tup xs => (xs[i]?).map fun v => (v, none)
    | .lit (.tuple xs) => (xs[i]?).map fun v => (AV.lit v, none)
    | _ => none
  | .len x => (asLen (ev x)).map fun (n : Nat) => (avInt .i64 (n : Int), none)
  | .lens x =>
    match ev x with
    | .lit (.string s) => some (avInt .i64 ((bl s).length : Int), none)
    | _ => none
  | .lenm x => (aLenm H (ev x)).map fun v => (v, none)
  | .append e sz bytes s x => (asElems H (ev x)).bind (appendOn H e sz bytes (ev s))
  | .appends e sz bytes s x => (srcStr (ev x)).bind (appendOn H e sz bytes (ev s))
  | .delete kd m k => (asKey kd (ev k)).bind fun k => (aDelete H kd k (ev m)).map fun H' => (avU, H')
  | .clear sz z x => (aClear H sz z (ev x)).map fun H' => (avU, H')
  | .mnmx mx xs =>
    match xs.map (ev) with
    | [] => none
    | x :: r => (mnmx mx x r).map fun v => (v, none)
  | .call _ _ => none


theorem aop_aopR (τ : List AV) (H : Hp) (ao : AOp) : aop τ H ao = aopR (evR (rho τ)) H ao := by
  rw [← aeval_rho]
  cases ao <;> rfl

def aopER (E : Env) (ρ : Rho) (H : Hp) : AOp → Option (AV × Option Hp)
  | .call f args => callV E (evR ρ f) (args.map (evR ρ)) H
  | ao => aopR (evR ρ) H ao
theorem aopE_rho (E : Env) (τ : List AV) (H : Hp) (ao : AOp) : aopE E τ H ao = aopER E (rho τ) H ao := by
  have key := aop_aopR τ H ao
  cases ao <;> first | exact key | (simp only [aopE, aopER, aeval_rho]; done)

/-- One operation. q: how quiet it is; 3: it stands in an ordered row. -/
def wpA (E : Env) (q : Nat) (ao : AOp) (ρ : Rho) (H : Hp) (Q : AV → Hp → Prop) : Prop :=
  match q with
  | 0 => ∃ v h, aopER E ρ H ao = some (v, h) ∧ Q v (h.getD H)
  | 1 => ∃ v h, aopER E ρ { l := H.l, d := none } ao = some (v, h) ∧ (match h with | none => Q v H | some H' => keeps H H' = true ∧ Q v { l := H'.l, d := dminO H.d H'.d })
  | _ => ∃ v, aopER E ρ H ao = some (v, none) ∧ Q v H

/-- Behind a guard: what was skipped is taken for false. -/
def gate (x : AV) (b : Bool) (A B : Prop) : Prop := (∃ t, x = avBool t ∧ (t = b → A) ∧ (t ≠ b → B)) ∨ (x = avU ∧ B)

def wpO (E : Env) : List (AOper × Nat) → Rho → Hp → (Rho → Hp → Prop) → Prop
  | [], ρ, H, Q => Q ρ H
  | o :: r, ρ, H, Q =>
    match o.1.grd with
    | none => wpA E o.2 o.1.op ρ H fun v H' => wpO E r (updO ρ o.1.dst v) H' Q
    | some (d, b) => gate (ρ d) b (wpA E o.2 o.1.op ρ H fun v H' => wpO E r (updO ρ o.1.dst v) H' Q) (wpO E r (updO ρ o.1.dst avU) H Q)

def lvQ (q : Nat) : Nat := if q = 3 then 0 else q
def rdR (o : AOper) (ρ : Rho) : List Nat := match o.op with | .load _ a => ridOf (evR ρ a) | _ => []
def killR (o : AOper) (ρ : Rho) : Option Nat := match o.op with | .append _ _ _ s _ => kid (evR ρ s) | .appends _ _ _ s _ => kid (evR ρ s) | .store _ a _ => sid (evR ρ a) | _ => none
def noKill (R : List Nat) (k : Option Nat) : Bool := match k with | some id => !R.contains id | none => true
/-- A drawn row in which an append stands in no order with a load. -/
def wpK (E : Env) : List Nat → List (AOper × Nat) → Rho → Hp → (Rho → Hp → Prop) → Prop
  | _, [], ρ, H, Q => Q ρ H
  | R, o :: r, ρ, H, Q =>
    (o.2 = 3 → noKill R (killR o.1 ρ) = true) ∧
    match o.1.grd with
    | none => wpA E (lvQ o.2) o.1.op ρ H fun v H' => wpK E (rdR o.1 ρ ++ R) r (updO ρ o.1.dst v) H' Q
    | some (d, b) => gate (ρ d) b (wpA E (lvQ o.2) o.1.op ρ H fun v H' => wpK E (rdR o.1 ρ ++ R) r (updO ρ o.1.dst v) H' Q) (wpK E (rdR o.1 ρ ++ R) r (updO ρ o.1.dst avU) H Q)

def difR (ρ : Rho) (df : List (Nat × Nat)) : Bool := df.all fun p => match ρ p.1, ρ p.2 with | .ptr i _, .ptr j _ => i != j | _, _ => false

abbrev Post := AX → Rho → Hp → Prop

/-- Rounds of a loop: at most k. -/
def iter (step : Rho → Hp → Post → Prop) (Q : Post) : Nat → Rho → Hp → Prop
  | 0, _, _ => False
  | k + 1, ρ, H => step ρ H fun x ρ' H' => match x with | .nrm => iter step Q k ρ' H' | x => Q x ρ' H'

def dstO (n : Nat) (d : Option Nat) : Bool := match d with | some m => decide (m < n) | none => true
/-- Are all temporaries that are written below n? -/
def dstOK (n : Nat) : AC → Bool
  | .seq a b => dstOK n a && dstOK n b
  | .ops l => l.all fun o => dstO n o.dst
  | .dops _ l q _ => l.all (fun o => dstO n o.dst) && decide (l.length = q.length)
  | .cond _ a b => dstOK n a && dstOK n b
  | .block _ b => dstOK n b
  | .loop b => dstOK n b
  | .rangeFn _ ps a b => ps.all (fun p => decide (p < n)) && dstOK n a && dstOK n b
  | _ => true

def wp (E : Env) (rd : Option Nat) : AC → Rho → Hp → Post → Prop
  | .skip, ρ, H, Q => Q .nrm ρ H
  | .seq a b, ρ, H, Q => wp E rd a ρ H fun x ρ' H' => match x with | .nrm => wp E rd b ρ' H' Q | x => Q x ρ' H'
  | .ops l, ρ, H, Q => wpO E (l.map fun o => (o, 0)) ρ H (Q .nrm)
  | .dops _ l q df, ρ, H, Q => difR ρ df = true ∧ (if q.contains 3 then wpK E [] (l.zip q) ρ H (Q .nrm) else wpO E (l.zip q) ρ H (Q .nrm))
  | .cond c a b, ρ, H, Q => ∃ t, evR ρ c = avBool t ∧ (t = true → wp E rd a ρ H Q) ∧ (t = false → wp E rd b ρ H Q)
  | .block id b, ρ, H, Q => wp E rd b ρ H fun x ρ' H' => match x with | .exit i => if i = id then Q .nrm ρ' H' else Q (.exit i) ρ' H' | x => Q x ρ' H'
  | .loop b, ρ, H, Q => ∃ k, iter (fun ρ H Q => wp E rd b ρ H Q) Q k ρ H
  | .exit id, ρ, H, Q => Q (.exit id) ρ H
  | .ret, ρ, H, Q => Q .ret ρ H
  | .rangeFn f ps asg body, ρ, H, Q => ∀ τ, rho τ = ρ → (ps.all (fun p => decide (p < τ.length)) && dstOK τ.length asg && dstOK τ.length body) = true → ∃ x H', E.range rd (evR ρ f) ps asg body τ H = some (x, τ, H') ∧ Q x ρ H'

theorem dstO_spec {n : Nat} {d : Option Nat} (h : dstO n d = true) : ∀ m, d = some m → m < n := by
  intro m e; subst e; simpa [dstO] using h

/-- What wp promises. -/
def Runs (E : Env) (rd : Option Nat) (c : AC) (τ : List AV) (H : Hp) (Q : Post) : Prop := ∃ x τ' H', execC E rd c τ H = some (x, τ', H') ∧ τ'.length = τ.length ∧ Q x (rho τ') H'

section
variable {E : Env}

theorem wpA_act {q : Nat} {o : AOper} {τ : List AV} {H : Hp} {Q : AV → Hp → Prop} (hw : wantA τ o.grd = some true) (h : wpA E q o.op (rho τ) H Q) : ∃ v h, actQ E q o τ H = some (v, h) ∧ Q v (h.getD H) := by
  unfold wpA at h
  split at h
  · obtain ⟨v, h1, e, hq⟩ := h
    rw [← aopE_rho] at e
    exact ⟨v, h1, by unfold actQ actO; rw [hw]; exact e, hq⟩
  · obtain ⟨v, h1, e, hq⟩ := h
    rw [← aopE_rho] at e
    cases h1 with
    | none =>
      refine ⟨v, none, ?_, hq⟩
      unfold actQ actO; rw [hw]; simp only [e]
    | some H' =>
      refine ⟨v, some { l := H'.l, d := dminO H.d H'.d }, ?_, hq.2⟩
      unfold actQ actO; rw [hw]; simp only [e, hq.1, if_true]
  · rename_i n1 n2
    obtain ⟨v, e, hq⟩ := h
    rw [← aopE_rho] at e
    refine ⟨v, none, ?_, hq⟩
    unfold actQ
    split
    · exact absurd rfl n1
    · exact absurd rfl n2
    · unfold actO; rw [hw]; exact e
    · unfold actO; rw [hw]; simp only [e]

theorem wantA_rho {τ : List AV} {d : Nat} {b t : Bool} (h : rho τ d = avBool t) : wantA τ (some (d, b)) = some (t == b) := by
  have h' : τ.getD d avU = avBool t := h
  simp only [wantA, h']

theorem actQ_skip {q : Nat} {o : AOper} {τ : List AV} {H : Hp} (hw : wantA τ o.grd = some false) : actQ E q o τ H = some (avU, none) := by
  unfold actQ actO
  split <;> rw [hw]

theorem wpO_sound : ∀ {l : List (AOper × Nat)} {R : List Nat} {τ : List AV} {H : Hp} {Q : Rho → Hp → Prop}, (l.all fun o => dstO τ.length o.1.dst) = true → (∀ o ∈ l, o.2 ≠ 3) → wpO E l (rho τ) H Q → ∃ τ' H', execQ E R l τ H = some (τ', H') ∧ τ'.length = τ.length ∧ Q (rho τ') H'
  | [], R, τ, H, Q, _, _, h => ⟨τ, H, rfl, rfl, h⟩
  | o :: r, R, τ, H, Q, hd, h3, h => by
    simp only [List.all_cons, Bool.and_eq_true] at hd
    have hk : killOK R o τ = true := by have := h3 o (by simp); unfold killOK; simp [this]
    have fin : ∀ {v : AV} {h1 : Option Hp}, actQ E o.2 o.1 τ H = some (v, h1) → wpO E r (updO (rho τ) o.1.dst v) (h1.getD H) Q → ∃ τ' H', execQ E R (o :: r) τ H = some (τ', H') ∧ τ'.length = τ.length ∧ Q (rho τ') H' := by
      intro v h1 e hr
      rw [← rho_aput (dstO_spec hd.1)] at hr
      obtain ⟨τ', H', e2, e3, e4⟩ := wpO_sound (R := rdOf o.1 τ ++ R) (τ := aput o.1.dst v τ) (by rw [aput_length]; exact hd.2) (fun x hx => h3 x (by simp [hx])) hr
      exact ⟨τ', H', by simp only [execQ, e, e2, hk, if_true], by rw [e3, aput_length], e4⟩
    unfold wpO at h
    split at h
    · rename_i hg
      obtain ⟨v, h1, e, hr⟩ := wpA_act (by rw [hg]; rfl) h
      exact fin e hr
    · rename_i d b hg
      rcases h with ⟨t, ht, hy, hn⟩ | ⟨ht, hn⟩
      rotate_left
      · refine fin (actQ_skip ?_) hn
        rw [hg]
        have h' : τ.getD d avU = avU := ht
        simp only [wantA, h']
      by_cases htb : t = b
      · obtain ⟨v, h1, e, hr⟩ := wpA_act (by rw [hg, wantA_rho ht]; simp [htb]) (hy htb)
        exact fin e hr
      · exact fin (actQ_skip (by rw [hg, wantA_rho ht]; simp [htb])) (hn htb)
theorem rdR_rho {o : AOper} {τ : List AV} : rdR o (rho τ) = rdOf o τ := by
  obtain ⟨d, op, g⟩ := o
  cases op <;> simp [rdR, rdOf, aeval_rho]
theorem killR_rho {o : AOper} {τ : List AV} : killR o (rho τ) = killOf o τ := by
  obtain ⟨d, op, g⟩ := o
  cases op <;> simp [killR, killOf, aeval_rho]
theorem actQ_lv {q : Nat} {o : AOper} {τ : List AV} {H : Hp} : actQ E (lvQ q) o τ H = actQ E q o τ H := by
  unfold lvQ
  split
  · rename_i h; subst h; rfl
  · rfl
theorem wpK_sound : ∀ {l : List (AOper × Nat)} {R : List Nat} {τ : List AV} {H : Hp} {Q : Rho → Hp → Prop}, (l.all fun o => dstO τ.length o.1.dst) = true → wpK E R l (rho τ) H Q → ∃ τ' H', execQ E R l τ H = some (τ', H') ∧ τ'.length = τ.length ∧ Q (rho τ') H'
  | [], R, τ, H, Q, _, h => ⟨τ, H, rfl, rfl, h⟩
  | o :: r, R, τ, H, Q, hd, h => by
    simp only [List.all_cons, Bool.and_eq_true] at hd
    unfold wpK at h
    obtain ⟨hk0, h⟩ := h
    have hk : killOK R o τ = true := by
      unfold killOK
      by_cases h3 : o.2 = 3
      · have := hk0 h3
        rw [killR_rho] at this
        unfold noKill at this
        simp only [h3, bne_self_eq_false, Bool.false_or]
        exact this
      · simp [h3]
    rw [rdR_rho] at h
    have fin : ∀ {v : AV} {h1 : Option Hp}, actQ E o.2 o.1 τ H = some (v, h1) → wpK E (rdOf o.1 τ ++ R) r (updO (rho τ) o.1.dst v) (h1.getD H) Q → ∃ τ' H', execQ E R (o :: r) τ H = some (τ', H') ∧ τ'.length = τ.length ∧ Q (rho τ') H' := by
      intro v h1 e hr
      rw [← rho_aput (dstO_spec hd.1)] at hr
      obtain ⟨τ', H', e2, e3, e4⟩ := wpK_sound (τ := aput o.1.dst v τ) (by rw [aput_length]; exact hd.2) hr
      exact ⟨τ', H', by simp only [execQ, e, e2, hk, if_true], by rw [e3, aput_length], e4⟩
    split at h
    · rename_i hg
      obtain ⟨v, h1, e, hr⟩ := wpA_act (by rw [hg]; rfl) h
      rw [actQ_lv] at e
      exact fin e hr
    · rename_i d b hg
      rcases h with ⟨t, ht, hy, hn⟩ | ⟨ht, hn⟩
      rotate_left
      · refine fin (actQ_skip ?_) hn
        rw [hg]
        have h' : τ.getD d avU = avU := ht
        simp only [wantA, h']
      by_cases htb : t = b
      · obtain ⟨v, h1, e, hr⟩ := wpA_act (by rw [hg, wantA_rho ht]; simp [htb]) (hy htb)
        rw [actQ_lv] at e
        exact fin e hr
      · exact fin (actQ_skip (by rw [hg, wantA_rho ht]; simp [htb])) (hn htb)

theorem execOps_Q : ∀ (l : List AOper) (R : List Nat) (τ : List AV) (H : Hp), execOps E l τ H = execQ E R (l.map fun o => (o, 0)) τ H
  | [], R, τ, H => rfl
  | o :: l, R, τ, H => by
    simp only [execOps, List.map_cons, execQ]
    have : actQ E 0 o τ H = actO E o τ H := rfl
    rw [this, if_pos (show killOK R (o, 0) τ = true from rfl)]
    split
    · rename_i h1; exact execOps_Q l _ _ _
    · rfl

theorem wp_sound {Γ : Sums} {A : Tab} {rd : Option Nat} : ∀ (c : AC) {τ : List AV} {H : Hp} {Q : Post}, dstOK τ.length c = true → wp (lim Γ A) rd c (rho τ) H Q → Runs (lim Γ A) rd c τ H Q
  | .skip, τ, H, Q, hd, h => ⟨_, _, _, rfl, rfl, h⟩
  | .exit id, τ, H, Q, hd, h => ⟨_, _, _, rfl, rfl, h⟩
  | .ret, τ, H, Q, hd, h => ⟨_, _, _, rfl, rfl, h⟩
  | .seq a b, τ, H, Q, hd, h => by
    simp only [dstOK, Bool.and_eq_true] at hd
    simp only [wp] at h
    obtain ⟨x, τ', H', e1, e2, e3⟩ := wp_sound a hd.1 h
    cases x with
    | nrm =>
      obtain ⟨y, τ'', H'', f1, f2, f3⟩ := wp_sound b (by rw [e2]; exact hd.2) e3
      exact ⟨y, τ'', H'', by simp only [execC, e1, f1], by rw [f2, e2], f3⟩
    | ret => exact ⟨_, τ', H', by simp only [execC, e1], e2, e3⟩
    | exit i => exact ⟨_, τ', H', by simp only [execC, e1], e2, e3⟩
  | .ops l, τ, H, Q, hd, h => by
    simp only [wp] at h
    obtain ⟨τ', H', e1, e2, e3⟩ := wpO_sound (R := []) (by simpa [dstOK] using hd) (by simp) h
    exact ⟨.nrm, τ', H', by simp only [execC]; rw [execOps_Q l [], e1]; rfl, e2, e3⟩
  | .dops id l q df, τ, H, Q, hd, h => by
    simp only [wp] at h
    simp only [dstOK, Bool.and_eq_true, decide_eq_true_eq] at hd
    have hl : ((l.zip q).all fun o => dstO τ.length o.1.dst) = true := by
      rw [List.all_eq_true] at hd ⊢
      intro p hp
      exact hd.1 _ (List.of_mem_zip hp).1
    obtain ⟨τ', H', e1, e2, e3⟩ : ∃ τ' H', execQ (lim Γ A) [] (l.zip q) τ H = some (τ', H') ∧ τ'.length = τ.length ∧ Q .nrm (rho τ') H' := by
      have h2 := h.2
      split at h2
      · exact wpK_sound hl h2
      · rename_i hq
        refine wpO_sound hl (fun o ho h3 => ?_) h2
        have := (List.of_mem_zip ho).2
        rw [h3] at this
        exact hq (by simpa using this)
    exact ⟨.nrm, τ', H', by simp only [execC]; rw [if_pos (show difOK τ df = true from h.1), e1]; rfl, e2, e3⟩
  | .cond c a b, τ, H, Q, hd, h => by
    simp only [dstOK, Bool.and_eq_true] at hd
    simp only [wp] at h
    obtain ⟨t, ht, h1, h2⟩ := h
    rw [← aeval_rho] at ht
    cases t with
    | true =>
      obtain ⟨x, τ', H', e1, e2⟩ := wp_sound a hd.1 (h1 rfl)
      exact ⟨x, τ', H', by simp only [execC, ht]; exact e1, e2⟩
    | false =>
      obtain ⟨x, τ', H', e1, e2⟩ := wp_sound b hd.2 (h2 rfl)
      exact ⟨x, τ', H', by simp only [execC, ht]; exact e1, e2⟩
  | .block id b, τ, H, Q, hd, h => by
    simp only [wp] at h
    obtain ⟨x, τ', H', e1, e2, e3⟩ := wp_sound b (by simpa [dstOK] using hd) h
    cases x with
    | nrm => exact ⟨_, τ', H', by simp only [execC, e1], e2, e3⟩
    | ret => exact ⟨_, τ', H', by simp only [execC, e1], e2, e3⟩
    | exit i =>
      simp only [] at e3
      by_cases hi : i = id
      · rw [if_pos hi] at e3
        exact ⟨_, τ', H', by simp only [execC, e1, if_pos hi], e2, e3⟩
      · rw [if_neg hi] at e3
        exact ⟨_, τ', H', by simp only [execC, e1, if_neg hi], e2, e3⟩
  | .loop b, τ, H, Q, hd, h => by
    simp only [wp] at h
    obtain ⟨k, h⟩ := h
    have hb : ∀ {τ' : List AV} {H : Hp} {Q : Post}, τ'.length = τ.length → wp (lim Γ A) rd b (rho τ') H Q → Runs (lim Γ A) rd b τ' H Q := fun hl h => wp_sound b (by rw [hl]; simpa [dstOK] using hd) h
    have key : ∀ k (τ' : List AV) (H : Hp), τ'.length = τ.length → iter (fun ρ H Q => wp (lim Γ A) rd b ρ H Q) Q k (rho τ') H → ∃ x τ'' H', (lim Γ A).loop rd b τ' H = some (x, τ'', H') ∧ τ''.length = τ.length ∧ Q x (rho τ'') H' := by
      intro k
      induction k with
      | zero => intro τ' H _ h; exact h.elim
      | succ k ih =>
        intro τ' H hl h
        simp only [iter] at h
        obtain ⟨x, τ1, H1, e1, e2, e3⟩ := hb hl h
        rw [lim_loop_eq, e1]
        cases x with
        | nrm => exact ih τ1 H1 (by rw [e2, hl]) e3
        | ret => exact ⟨_, _, _, rfl, by rw [e2, hl], e3⟩
        | exit i => exact ⟨_, _, _, rfl, by rw [e2, hl], e3⟩
    obtain ⟨x, τ'', H', e1, e2, e3⟩ := key k τ H rfl h
    exact ⟨x, τ'', H', by simp only [execC]; exact e1, e2, e3⟩
  | .rangeFn f ps asg body, τ, H, Q, hd, h => by
    simp only [wp] at h
    obtain ⟨x, H', e1, e2⟩ := h τ rfl (by simpa only [dstOK] using hd)
    exact ⟨x, τ, H', by simp only [execC]; rw [aeval_rho]; exact e1, rfl, e2⟩

theorem wpA_mono {q : Nat} {ao : AOp} {ρ : Rho} {H : Hp} {Q Q' : AV → Hp → Prop} (hq : ∀ v H, Q v H → Q' v H) (h : wpA E q ao ρ H Q) : wpA E q ao ρ H Q' := by
  unfold wpA at *
  split at h
  · obtain ⟨v, h1, e, k⟩ := h; exact ⟨v, h1, e, hq _ _ k⟩
  · obtain ⟨v, h1, e, k⟩ := h
    refine ⟨v, h1, e, ?_⟩
    cases h1 with
    | none => exact hq _ _ k
    | some H' => exact ⟨k.1, hq _ _ k.2⟩
  · obtain ⟨v, e, k⟩ := h; exact ⟨v, e, hq _ _ k⟩

theorem wpO_mono : ∀ {l : List (AOper × Nat)} {ρ : Rho} {H : Hp} {Q Q' : Rho → Hp → Prop}, (∀ ρ H, Q ρ H → Q' ρ H) → wpO E l ρ H Q → wpO E l ρ H Q'
  | [], ρ, H, Q, Q', hq, h => hq _ _ h
  | o :: r, ρ, H, Q, Q', hq, h => by
    simp only [wpO] at h ⊢
    cases hg : o.1.grd with
    | none =>
      rw [hg] at h
      exact wpA_mono (fun v H h => wpO_mono hq h) h
    | some p =>
      rw [hg] at h
      rcases h with ⟨t, ht, h1, h2⟩ | ⟨ht, h2⟩
      · exact .inl ⟨t, ht, fun e => wpA_mono (fun v H h => wpO_mono hq h) (h1 e), fun e => wpO_mono hq (h2 e)⟩
      · exact .inr ⟨ht, wpO_mono hq h2⟩

theorem wpK_mono : ∀ {l : List (AOper × Nat)} {R : List Nat} {ρ : Rho} {H : Hp} {Q Q' : Rho → Hp → Prop}, (∀ ρ H, Q ρ H → Q' ρ H) → wpK E R l ρ H Q → wpK E R l ρ H Q'
  | [], R, ρ, H, Q, Q', hq, h => hq _ _ h
  | o :: r, R, ρ, H, Q, Q', hq, h => by
    simp only [wpK] at h ⊢
    obtain ⟨h0, h⟩ := h
    refine ⟨h0, ?_⟩
    cases hg : o.1.grd with
    | none =>
      rw [hg] at h
      exact wpA_mono (fun v H h => wpK_mono hq h) h
    | some p =>
      rw [hg] at h
      rcases h with ⟨t, ht, h1, h2⟩ | ⟨ht, h2⟩
      · exact .inl ⟨t, ht, fun e => wpA_mono (fun v H h => wpK_mono hq h) (h1 e), fun e => wpK_mono hq (h2 e)⟩
      · exact .inr ⟨ht, wpK_mono hq h2⟩

theorem wp_mono {rd : Option Nat} (c : AC) : ∀ {ρ : Rho} {H : Hp} {Q Q' : Post}, (∀ x ρ H, Q x ρ H → Q' x ρ H) → wp E rd c ρ H Q → wp E rd c ρ H Q' := by
  induction c with
  | skip => intro ρ H Q Q' hq h; exact hq _ _ _ h
  | exit id => intro ρ H Q Q' hq h; exact hq _ _ _ h
  | ret => intro ρ H Q Q' hq h; exact hq _ _ _ h
  | seq a b iha ihb =>
    intro ρ H Q Q' hq h
    simp only [wp] at h ⊢
    refine iha (fun x ρ H k => ?_) h
    cases x with
    | nrm => exact ihb hq k
    | ret => exact hq _ _ _ k
    | exit i => exact hq _ _ _ k
  | ops l => intro ρ H Q Q' hq h; simp only [wp] at h ⊢; exact wpO_mono (fun ρ H k => hq _ _ _ k) h
  | dops id l q df =>
    intro ρ H Q Q' hq h
    simp only [wp] at h ⊢
    refine ⟨h.1, ?_⟩
    have h2 := h.2
    by_cases hc : q.contains 3 = true
    · rw [if_pos hc] at h2 ⊢; exact wpK_mono (fun ρ H k => hq _ _ _ k) h2
    · rw [if_neg hc] at h2 ⊢; exact wpO_mono (fun ρ H k => hq _ _ _ k) h2
  | cond c a b iha ihb =>
    intro ρ H Q Q' hq h
    simp only [wp] at h ⊢
    obtain ⟨t, ht, h1, h2⟩ := h
    exact ⟨t, ht, fun e => iha hq (h1 e), fun e => ihb hq (h2 e)⟩
  | block id b ihb =>
    intro ρ H Q Q' hq h
    simp only [wp] at h ⊢
    refine ihb (fun x ρ H k => ?_) h
    cases x with
    | nrm => exact hq _ _ _ k
    | ret => exact hq _ _ _ k
    | exit i =>
      simp only [] at k ⊢
      split at k
      · rename_i hi; rw [if_pos hi]; exact hq _ _ _ k
      · rename_i hi; rw [if_neg hi]; exact hq _ _ _ k
  | loop b ihb =>
    intro ρ H Q Q' hq h
    simp only [wp] at h ⊢
    obtain ⟨k, h⟩ := h
    refine ⟨k, ?_⟩
    have : ∀ k ρ H, iter (fun ρ H Q => wp E rd b ρ H Q) Q k ρ H → iter (fun ρ H Q => wp E rd b ρ H Q) Q' k ρ H := by
      intro k
      induction k with
      | zero => intro ρ H h; exact h
      | succ k ih =>
        intro ρ H h
        simp only [iter] at h ⊢
        refine ihb (fun x ρ H j => ?_) h
        cases x with
        | nrm => exact ih _ _ j
        | ret => exact hq _ _ _ j
        | exit i => exact hq _ _ _ j
    exact this k ρ H h
  | rangeFn f ps asg body =>
    intro ρ H Q Q' hq h
    simp only [wp] at h ⊢
    intro τ ht ho
    obtain ⟨x, H', e, k⟩ := h τ ht ho
    exact ⟨x, H', e, hq _ _ _ k⟩

/-- A loop by an invariant that falls. -/
theorem wp_loop {rd : Option Nat} {b : AC} {ρ : Rho} {H : Hp} {Q : Post} (I : Nat → Rho → Hp → Prop) {n : Nat} (h0 : I n ρ H)
    (hs : ∀ n ρ H, I n ρ H → wp E rd b ρ H fun x ρ' H' => match x with | .nrm => ∃ m, m < n ∧ I m ρ' H' | x => Q x ρ' H') : wp E rd (.loop b) ρ H Q := by
  simp only [wp]
  have key : ∀ n ρ H, I n ρ H → ∃ k, ∀ j, k ≤ j → iter (fun ρ H Q => wp E rd b ρ H Q) Q j ρ H := by
    intro n
    induction n using Nat.strongRecOn with
    | _ n ih =>
      intro ρ H hI
      -- bound: n + 1 rounds suffice
      refine ⟨n + 1, ?_⟩
      have bound : ∀ (j n : Nat) (ρ : Rho) (H : Hp), n < j → I n ρ H → iter (fun ρ H Q => wp E rd b ρ H Q) Q j ρ H := by
        intro j
        induction j with
        | zero => intro n ρ H hn _; omega
        | succ j ihj =>
          intro n ρ H hn hI
          simp only [iter]
          refine wp_mono b (fun x ρ H k => ?_) (hs n ρ H hI)
          cases x with
          | nrm =>
            simp only [] at k ⊢
            obtain ⟨m, hm, hI⟩ := k
            exact ihj m ρ H (by omega) hI
          | ret => exact k
          | exit i => exact k
      intro j hj
      exact bound j n ρ H (by omega) hI
  obtain ⟨k, hk⟩ := key n ρ H h0
  exact ⟨k, hk k (Nat.le_refl _)⟩
end

/-! ### Calls -/
def rho0 (args : List AV) : Rho := fun i => args.getD i avU
theorem rho_args (args : List AV) (k : Nat) : rho (args ++ List.replicate k avU) = rho0 args := by
  funext i
  simp only [rho, rho0, List.getD_eq_getElem?_getD]
  by_cases h : i < args.length
  · rw [List.getElem?_append_left h]
  · rw [List.getElem?_append_right (by omega), List.getElem?_eq_none (by omega : args.length ≤ i)]
    by_cases h2 : i - args.length < k
    · simp [List.getElem?_replicate, h2]
    · simp [List.getElem?_replicate, h2]

def resOneR (ρ : Rho) (H : Hp) : Sum Nat (Nat × Option Nat) → Option AV
  | .inl t => some (ρ t)
  | .inr (t, lay) => aload H lay (ρ t)
def resR (rs : List (Sum Nat (Nat × Option Nat))) (ρ : Rho) (H : Hp) : Option AV :=
  match rs.mapM (resOneR ρ H) with
  | some [v] => some v
  | some vs => some (.tup vs)
  | none => none
theorem resA_rho (rs : List (Sum Nat (Nat × Option Nat))) (τ : List AV) (H : Hp) : resA rs τ H = resR rs (rho τ) H := rfl

def okF (fn : AFunc) (k : Nat) : Bool := dstOK (k + (fn.ntmps - k)) fn.body

/-- What the code of a function owes. -/
def Ends (rs : List (Sum Nat (Nat × Option Nat))) (z : Bool) (H : Hp) (r : AV × Option Hp → Prop) : Post := fun x ρ H' => (x = .nrm ∨ x = .ret) ∧ ∃ v, resR rs ρ H' = some v ∧ r (settleZ z H v H')

theorem runF_of_wp {Γ : Sums} {A : Tab} {fn : AFunc} {args : List AV} {H : Hp} {R : AV × Option Hp → Prop} (hd : okF fn args.length = true)
    (h : wp (lim Γ A) none fn.body (rho0 args) { l := H.l, d := none } (Ends fn.results fn.frz H R)) : ∃ r, runF (execC (lim Γ A) none) fn args H = some r ∧ R r := by
  rw [← rho_args args (fn.ntmps - args.length)] at h
  obtain ⟨x, τ', H', e1, e2, hx, v, e3, e4⟩ := wp_sound fn.body (by simpa [okF] using hd) h
  refine ⟨settleZ fn.frz H v H', ?_, e4⟩
  unfold runF
  rcases hx with rfl | rfl <;> rw [e1] <;> simp only [] <;> rw [resA_rho, e3] <;> rfl

theorem call_of_wp {Γ : Sums} {A : Tab} {f : FuncId} {fn : AFunc} {args : List AV} {H : Hp} {R : AV × Option Hp → Prop} (hΓ : Γ f args H = none) (hA : A f = some fn) (hd : okF fn args.length = true)
    (h : wp (lim Γ A) none fn.body (rho0 args) { l := H.l, d := none } (Ends fn.results fn.frz H R)) : ∃ r, (lim Γ A).call f args H = some r ∧ R r := by
  obtain ⟨r, e, hr⟩ := runF_of_wp hd h
  exact ⟨r, by rw [lim_call_eq, hΓ, hA]; exact e, hr⟩

theorem ent_of_wp {Γ : Sums} {A : Tab} {f : FuncId} {fn : AFunc} {args : List AV} {H : Hp} {R : AV × Option Hp → Prop} (hA : A f = some fn) (hd : okF fn args.length = true)
    (h : wp (lim Γ A) none fn.body (rho0 args) { l := H.l, d := none } (Ends fn.results fn.frz H R)) : ∃ r, (lim Γ A).ent f args H = some r ∧ R r := by
  obtain ⟨r, e, hr⟩ := runF_of_wp hd h
  exact ⟨r, by rw [lim_ent_eq, hA]; exact e, hr⟩

end Go.Proofs.Eng
