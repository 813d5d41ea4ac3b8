/- A region in whatever order: what its predicate says in the text's order; no condition. -/
import Derived.Test.YtjlgeoaomegbmaaEng10
import Derived.Tactics
namespace Go.Proofs.Ytjlgeoaomegbmaa.Eng
open Go Go.RowKit
set_option autoImplicit false
set_option linter.unusedSimpArgs false
set_option linter.unusedVariables false

variable {P : Program} {n : Nat} {w0 : World} {M : Nat → Prop}

/-- An operation under its guard. -/
def gT (X : Ctx P) (all : Array Oper) (o : Oper) (env : Env) (H : Heap) (K : KT) : Prop :=
  match o.guard with
  | none => opT X.F X.Γ o.op (ev env) (restrict H (foot X.F.refs H o.op (ev env))) (o.dst.getD 0) K
  | some (j, want) => match ((all[j]?).bind (·.dst)).map env with
    | some (.c (.v (.bool b))) => (b = want → opT X.F X.Γ o.op (ev env) (restrict H (foot X.F.refs H o.op (ev env))) (o.dst.getD 0) K) ∧ (b = !want → K (.tup []) [])
    | some (.tup _) => K (.tup []) []
    | _ => False

def dstOk (n : Nat) (o : Oper) : Bool := match o.dst with
  | some d => decide (d < n)
  | none => true

theorem EnvOk.put {env : Env} {a : Act} (hE : EnvOk n env a) (dst : Option Nat) (hd : ∀ d, dst = some d → d < n) (v : SV) (x : Value) (hx : v.known = true → x = v.den) : EnvOk n (putE env dst v) (a.put dst x) := by
  cases dst with
  | none => exact hE
  | some d =>
    refine ⟨by simp [Act.put, hE.size], fun t ht => ?_, hE.defers⟩
    simp only [putE, upd_apply] at ht ⊢
    simp only [Act.put]
    by_cases h : t = d
    · subst h
      rw [if_pos rfl] at ht ⊢
      rw [Array.getElem?_setIfInBounds_self_of_lt (by rw [hE.size]; exact hd t rfl), hx ht]
    · rw [if_neg h] at ht ⊢
      rw [Array.getElem?_setIfInBounds_ne (fun e => h e.symm)]
      exact hE.slot t ht

theorem gT_sound (X : Ctx P) (all : Array Oper) (o : Oper) {Q : Exit → Act → World → Prop} {env : Env} {H : Heap} {a : Act} {w : World} {K : KT} (hE : EnvOk n env a) (hH : HSat w0 M H w) (hd : dstOk n o = true) (h : gT X all o env H K)
    (K' : Act → World → Prop) (hK : ∀ v u a' w', K v u → EnvOk n (putE env o.dst v) a' → HSat w0 M (upds H u) w' → K' a' w') :
    if Region.wanted o (yielded all a.tmps) then o.wp P a w K' Q ∨ (o.asks P a w ∧ LetsOut Q) else K' (a.put o.dst undef) w := by
  have hd' : ∀ d, o.dst = some d → d < n := by
    intro d e
    rw [dstOk, e] at hd
    exact of_decide_eq_true hd
  have run : opT X.F X.Γ o.op (ev env) (restrict H (foot X.F.refs H o.op (ev env))) (o.dst.getD 0) K → o.wp P a w K' Q ∨ (o.asks P a w ∧ LetsOut Q) := fun h1 =>
    .inl (Oper.wp_mono (fun a' w' ⟨v, u, x, hK1, ha, hx, hH'⟩ => by subst ha; exact hK v u _ _ hK1 (hE.put o.dst hd' v x hx) hH') (op_sound X o (Q := Q) hE hH _ h1))
  unfold gT at h
  split at h
  · rename_i hg
    have : Region.wanted o (yielded all a.tmps) = true := by simp [Region.wanted, hg]
    rw [if_pos this]
    exact run h
  · rename_i j want hg
    split at h
    · rename_i b hs
      obtain ⟨t, ht, hb⟩ := Option.map_eq_some_iff.1 hs
      have hy : yielded all a.tmps j = some b := by
        unfold yielded
        rw [ht]
        have := hE.slot t (by rw [hb]; rfl)
        rw [hb] at this
        simp only [Option.bind_some, this]
        rfl
      have hw : Region.wanted o (yielded all a.tmps) = (some b == some want) := by simp [Region.wanted, hg, hy]
      rw [hw]
      by_cases hbw : b = want
      · subst hbw
        rw [if_pos (by simp)]
        exact run (h.1 rfl)
      · rw [if_neg (by simpa using hbw)]
        have hbn : b = !want := by cases b <;> cases want <;> simp_all
        exact hK _ _ _ _ (h.2 hbn) (hE.put o.dst hd' _ _ (fun _ => rfl)) hH
    · rename_i l hs
      obtain ⟨t, ht, hb⟩ := Option.map_eq_some_iff.1 hs
      have hy : yielded all a.tmps j = none := by
        unfold yielded
        rw [ht]
        have := hE.slot t (by rw [hb]; rfl)
        rw [hb] at this
        simp only [Option.bind_some, this]
        rfl
      have hw : Region.wanted o (yielded all a.tmps) = false := by simp [Region.wanted, hg, hy]
      rw [hw, if_neg (by simp)]
      exact hK _ _ _ _ h (hE.put o.dst hd' _ _ (fun _ => rfl)) hH
    · exact h.elim

/-- The operations, one behind the other. -/
def vcOps (X : Ctx P) (n : Nat) (all : Array Oper) : List Oper → Env → Heap → (Env → Heap → Prop) → Prop
  | [], env, H, K => K env H
  | o :: r, env, H, K => dstOk n o = true ∧ gT X all o env H fun v u => vcOps X n all r (putE env o.dst v) (upds H u) K

/-- What comes behind an operation, held back till its value is known. -/
def contOps (X : Ctx P) (n : Nat) (all : Array Oper) (r : List Oper) (dst : Option Nat) (env : Env) (H : Heap) (K : Env → Heap → Prop) : KT := fun v u => vcOps X n all r (putE env dst v) (upds H u) K
theorem contOps_at (X : Ctx P) (n : Nat) (all : Array Oper) (r : List Oper) (dst : Option Nat) (env : Env) (H : Heap) (K : Env → Heap → Prop) (v : SV) (u : Upd) : contOps X n all r dst env H K v u = vcOps X n all r (putE env dst v) (upds H u) K := rfl
theorem vcOps_nil (X : Ctx P) (n : Nat) (all : Array Oper) (env : Env) (H : Heap) (K : Env → Heap → Prop) : vcOps X n all [] env H K = K env H := rfl
theorem vcOps_cons (X : Ctx P) (n : Nat) (all : Array Oper) (o : Oper) (r : List Oper) (env : Env) (H : Heap) (K : Env → Heap → Prop) : vcOps X n all (o :: r) env H K = (dstOk n o = true ∧ gT X all o env H (contOps X n all r o.dst env H K)) := rfl

theorem vcOps_sound (X : Ctx P) (all : Array Oper) {Q : Exit → Act → World → Prop} : ∀ (l : List Oper) (env : Env) (H : Heap) (a : Act) (w : World) (K : Env → Heap → Prop), EnvOk n env a → HSat w0 M H w → vcOps X n all l env H K →
    (∀ env' H' a' w', K env' H' → EnvOk n env' a' → HSat w0 M H' w' → Q .normal a' w') → wpList P all Q l a w
  | [], env, H, a, w, K, hE, hH, h, hQ => hQ env H a w h hE hH
  | o :: r, env, H, a, w, K, hE, hH, h, hQ => by
    simp only [wpList]
    exact gT_sound X all o hE hH h.1 h.2 _ fun v u a' w' hv hE' hH' => vcOps_sound X all r _ _ a' w' K hE' hH' hv hQ

theorem region_sound (X : Ctx P) {id : Nat} {ops : Array Oper} {Q : Exit → Act → World → Prop} {env : Env} {H : Heap} {a : Act} {w : World} {K : Env → Heap → Prop} (hE : EnvOk n env a) (hH : HSat w0 M H w) (h : vcOps X n ops ops.toList env H K)
    (hQ : ∀ env' H' a' w', K env' H' → EnvOk n env' a' → HSat w0 M H' w' → Q .normal a' w') : (Code.region id ops false).wp P Q a w := by
  refine wp_region ?_
  have := wpOps_eq_wpList (P := P) (Q := Q) (ops := ops) ops.toList 0 (fun j => by simp)
  rw [List.range_eq_range', show ops.size = ops.toList.length from by simp, this]
  exact vcOps_sound X ops ops.toList env H a w K hE hH h hQ

/-! ### In whatever order -/

/-- j comes up ahead of i, by edges. -/
def waits (ops : Array Oper) : Nat → Nat → Nat → Bool
  | 0, _, _ => false
  | f + 1, i, j => match ops[i]? with
    | some o => o.after.any fun e => Region.binds .any e && (e.on == j || waits ops f e.on j)
    | none => false

/-- tab: for each operation the earlier ones that it need not wait for. -/
def orderOk (ops : Array Oper) (tab : List (List Nat)) : Bool :=
  (List.range ops.size).all fun i => match ops[i]? with
    | none => false
    | some oi => (oi.after.all fun e => !Region.binds .any e || decide (e.on < i)) && (match oi.op with | .select .. => false | _ => true) &&
      (List.range i).all fun j => if (tab.getD i []).contains j then (match ops[j]? with | some oj => oi.apart ops oj && oj.apart ops oi | none => false) else waits ops ops.size i j

def disj (a b : List Nat) : Bool := a.all fun x => !b.contains x

abbrev Past := List (Nat × List Nat × List Nat)
def chk (tab : List (List Nat)) (i : Nat) (R W : List Nat) (past : Past) : Bool := past.all fun p => !(tab.getD i []).contains p.1 || (disj W p.2.1 && disj p.2.2 R && disj W p.2.2)

def rOf (X : Ctx P) (o : Oper) (env : Env) (H : Heap) : List Nat := foot X.F.refs H o.op (ev env)
def wOf (X : Ctx P) (o : Oper) (env : Env) (H : Heap) : List Nat := wset X.wr o.op (rOf X o env H) (o.dst.getD 0)

def vcD (X : Ctx P) (n : Nat) (all : Array Oper) (tab : List (List Nat)) : List (Nat × Oper) → Past → Env → Heap → (Env → Heap → Prop) → Prop
  | [], _, env, H, K => K env H
  | (i, o) :: r, past, env, H, K => dstOk n o = true ∧ chk tab i (rOf X o env H) (wOf X o env H) past = true ∧
      gT X all o env H fun v u => vcD X n all tab r ((i, rOf X o env H, wOf X o env H) :: past) (putE env o.dst v) (upds H u) K

def contD (X : Ctx P) (n : Nat) (all : Array Oper) (tab : List (List Nat)) (r : List (Nat × Oper)) (past : Past) (dst : Option Nat) (env : Env) (H : Heap) (K : Env → Heap → Prop) : KT := fun v u => vcD X n all tab r past (putE env dst v) (upds H u) K
theorem contD_at (X : Ctx P) (n : Nat) (all : Array Oper) (tab : List (List Nat)) (r : List (Nat × Oper)) (past : Past) (dst : Option Nat) (env : Env) (H : Heap) (K : Env → Heap → Prop) (v : SV) (u : Upd) : contD X n all tab r past dst env H K v u = vcD X n all tab r past (putE env dst v) (upds H u) K := rfl
theorem vcD_nil (X : Ctx P) (n : Nat) (all : Array Oper) (tab : List (List Nat)) (past : Past) (env : Env) (H : Heap) (K : Env → Heap → Prop) : vcD X n all tab [] past env H K = K env H := rfl
theorem vcD_cons (X : Ctx P) (n : Nat) (all : Array Oper) (tab : List (List Nat)) (i : Nat) (o : Oper) (r : List (Nat × Oper)) (past : Past) (env : Env) (H : Heap) (K : Env → Heap → Prop) :
    vcD X n all tab ((i, o) :: r) past env H K = (dstOk n o = true ∧ chk tab i (rOf X o env H) (wOf X o env H) past = true ∧ gT X all o env H (contD X n all tab r ((i, rOf X o env H, wOf X o env H) :: past) o.dst env H K)) := rfl
theorem putE_some (env : Env) (d : Nat) (v : SV) (t : Nat) : putE env (some d) v t = if t = d then v else env t := rfl
theorem putE_none (env : Env) (v : SV) : putE env none v = env := rfl

theorem gT_conj (X : Ctx P) (all : Array Oper) (o : Oper) (env : Env) (H : Heap) : Conj (gT X all o env H) (wOf X o env H) := by
  unfold gT
  split
  · exact op_conj X o.op _ _ _ _ (foot_sub _ _ _ _) restrict_isSome
  · rename_i j want _
    split
    · rename_i b _
      by_cases hb : b = want
      · subst hb
        exact (op_conj X o.op (ev env) (restrict H (foot X.F.refs H o.op (ev env))) (o.dst.getD 0) _ (foot_sub _ _ _ _) restrict_isSome).congr fun K => by cases b <;> simp
      · have hbn : b = !want := by cases b <;> cases want <;> simp_all
        subst hbn
        exact (Conj.none_ (.tup [])).congr fun K => by cases want <;> simp
    · exact Conj.none_ (.tup [])
    · exact .false_

theorem ev_agree {all : Array Oper} {o : Oper} {env env' : Env} (h : ∀ t ∈ o.looksAt all, env t = env' t) : ∀ x ∈ o.op.operands, ev env x = ev env' x := by
  intro x hx
  cases x with
  | tmp t => exact h t (List.mem_append_left _ (List.mem_filterMap.2 ⟨.tmp t, by simpa using hx, rfl⟩))
  | _ => rfl

theorem foot_agree (X : Ctx P) {all : Array Oper} {o : Oper} {env env' : Env} {H H' : Heap} (h : ∀ t ∈ o.looksAt all, env t = env' t) (hH : ∀ i ∈ rOf X o env H, H i = H' i) : rOf X o env H = rOf X o env' H' := by
  unfold rOf at hH ⊢
  rw [foot_same hH]
  exact foot_congr _ _ _ _ _ (ev_agree h)

theorem w_agree (X : Ctx P) {all : Array Oper} {o : Oper} {env env' : Env} {H H' : Heap} (h : ∀ t ∈ o.looksAt all, env t = env' t) (hH : ∀ i ∈ rOf X o env H, H i = H' i) : wOf X o env H = wOf X o env' H' := by
  unfold wOf
  rw [foot_agree X h hH]

theorem gT_agree (X : Ctx P) {all : Array Oper} {o : Oper} {env env' : Env} {H H' : Heap} (h : ∀ t ∈ o.looksAt all, env t = env' t) (hH : ∀ i ∈ rOf X o env H, H i = H' i) : gT X all o env H = gT X all o env' H' := by
  have e1 := ev_agree h
  have e2 : restrict H (foot X.F.refs H o.op (ev env)) = restrict H' (foot X.F.refs H' o.op (ev env')) := by
    have := foot_agree X h hH
    unfold rOf at this
    rw [← this]
    exact restrict_congr hH
  have e3 : opT X.F X.Γ o.op (ev env) (restrict H (foot X.F.refs H o.op (ev env))) (o.dst.getD 0) = opT X.F X.Γ o.op (ev env') (restrict H' (foot X.F.refs H' o.op (ev env'))) (o.dst.getD 0) := by
    rw [e2]
    exact opT_congr _ _ _ _ _ _ e1
  funext K
  unfold gT
  cases hg : o.guard with
  | none => simp only [e3]
  | some gw =>
    obtain ⟨j, want⟩ := gw
    have hs : ((all[j]?).bind (·.dst)).map env = ((all[j]?).bind (·.dst)).map env' := by
      cases hj : (all[j]?).bind (·.dst) with
      | none => rfl
      | some t =>
        simp only [Option.map_some]
        rw [h t (by unfold Oper.looksAt; rw [hg]; simp [hj])]
    simp only [hs, e3]

theorem putE_comm (env : Env) {x y : Option Nat} (v u : SV) (h : ∀ d, x = some d → y ≠ some d) : putE (putE env x v) y u = putE (putE env y u) x v := by
  cases x with
  | none => rfl
  | some d =>
    cases y with
    | none => rfl
    | some e =>
      have hne : d ≠ e := fun he => h d rfl (he ▸ rfl)
      funext t
      simp only [putE, upd_apply]
      by_cases h1 : t = d
      · subst h1; rw [if_neg hne, if_pos rfl, if_pos rfl]
      · by_cases h2 : t = e
        · subst h2; rw [if_pos rfl, if_neg h1, if_pos rfl]
        · rw [if_neg h2, if_neg h1, if_neg h1, if_neg h2]

theorem putE_other (env : Env) {x : Option Nat} (v : SV) {t : Nat} (h : x ≠ some t) : putE env x v t = env t := by
  cases x with
  | none => rfl
  | some d => simp only [putE, upd_apply]; rw [if_neg (fun e => h (by rw [e]))]

theorem upds_get (u : Upd) : ∀ (H H' : Heap) (i : Nat), H i = H' i → upds H u i = upds H' u i := by
  induction u with
  | nil => intro H H' i h; exact h
  | cons p r ih =>
    intro H H' i h
    obtain ⟨k, e⟩ := p
    simp only [upds]
    refine ih _ _ i ?_
    simp only [upd_apply, h]

theorem upds_other (u : Upd) : ∀ (H : Heap) (i : Nat), (∀ p ∈ u, p.1 ≠ i) → upds H u i = H i := by
  induction u with
  | nil => intro H i _; rfl
  | cons p r ih =>
    intro H i h
    obtain ⟨k, e⟩ := p
    simp only [upds]
    rw [ih _ i (fun q hq => h q (by simp [hq]))]
    have := h (k, e) (by simp)
    simp only [upd_apply]
    rw [if_neg (fun e => this e.symm)]

theorem upds_comm (H : Heap) (u v : Upd) (h : ∀ p ∈ u, ∀ q ∈ v, p.1 ≠ q.1) : upds (upds H u) v = upds (upds H v) u := by
  funext i
  by_cases hu : ∃ p ∈ u, p.1 = i
  · obtain ⟨p, hp, rfl⟩ := hu
    rw [upds_other v _ _ (fun q hq e => h p hp q hq e.symm)]
    exact (upds_get u _ _ _ (upds_other v _ _ (fun q hq e => h p hp q hq e.symm))).symm
  · have hu' : ∀ p ∈ u, p.1 ≠ i := fun p hp e => hu ⟨p, hp, e⟩
    rw [upds_other u (upds H v) i hu']
    exact upds_get v _ _ _ (upds_other u _ _ hu')

theorem disj_mem {a b : List Nat} (h : disj a b = true) {x : Nat} (ha : x ∈ a) (hb : x ∈ b) : False := by
  have := List.all_eq_true.1 h x ha
  simp [hb] at this

theorem vcD_less (X : Ctx P) (all : Array Oper) (tab : List (List Nat)) : ∀ (l : List (Nat × Oper)) (past past' : Past) (env : Env) (H : Heap) (K : Env → Heap → Prop), (∀ p ∈ past', p ∈ past) → vcD X n all tab l past env H K → vcD X n all tab l past' env H K
  | [], _, _, _, _, _, _, h => h
  | (i, o) :: r, past, past', env, H, K, hs, h => by
    simp only [vcD] at h ⊢
    refine ⟨h.1, ?_, ?_⟩
    · exact List.all_eq_true.2 fun p hp => List.all_eq_true.1 h.2.1 p (hs p hp)
    · obtain ⟨s, R, h0, h1, h2⟩ := gT_conj X all o env H
      rw [h2] at h ⊢
      refine ⟨h.2.2.1, fun v u hR => vcD_less X all tab r _ _ _ _ K ?_ (h.2.2.2 v u hR)⟩
      intro p hp
      simp only [List.mem_cons] at hp ⊢
      exact hp.imp_right (hs p)

theorem gT_mono (X : Ctx P) (all : Array Oper) (o : Oper) (env : Env) (H : Heap) {K K' : KT} (h : gT X all o env H K) (hK : ∀ v u, K v u → K' v u) : gT X all o env H K' := by
  obtain ⟨s, R, h0, h1, h2⟩ := gT_conj X all o env H
  rw [h2] at h ⊢
  exact ⟨h.1, fun v u hR => hK v u (h.2 v u hR)⟩

abbrev Ops := List (Nat × Oper)

/-- Taking an operation first that need not wait for those ahead of it. -/
theorem vcD_pick (X : Ctx P) (all : Array Oper) (tab : List (List Nat)) (i : Nat) (oi : Oper) : ∀ (l : Ops) (past : Past) (env : Env) (H : Heap) (K : Env → Heap → Prop),
    l.Pairwise (fun p q => p.1 < q.1) → (i, oi) ∈ l → (∀ j oj, (j, oj) ∈ l → j < i → (tab.getD i []).contains j = true ∧ oi.apart all oj = true ∧ oj.apart all oi = true) →
    vcD X n all tab l past env H K →
    dstOk n oi = true ∧ chk tab i (rOf X oi env H) (wOf X oi env H) past = true ∧ gT X all oi env H fun v u => vcD X n all tab (l.filter fun p => p.1 != i) past (putE env oi.dst v) (upds H u) K
  | [], _, _, _, _, _, hm, _, _ => by cases hm
  | (j, oj) :: r, past, env, H, K, hs, hm, hp, h => by
    obtain ⟨hsj, hsr⟩ := List.pairwise_cons.1 hs
    simp only [vcD] at h
    obtain ⟨hdj, hcj, hT⟩ := h
    by_cases hji : j = i
    · subst hji
      have hoi : oi = oj := by
        simp only [List.mem_cons, Prod.mk.injEq, true_and] at hm
        rcases hm with h | h
        · exact h
        · exact absurd (hsj _ h) (by simp)
      subst hoi
      refine ⟨hdj, hcj, gT_mono X all oi env H hT fun v u hv => ?_⟩
      have hf : ((j, oi) :: r).filter (fun p => p.1 != j) = r := by
        rw [List.filter_cons_of_neg (by simp)]
        exact List.filter_eq_self.2 fun q hq => by have := hsj q hq; simp at this ⊢; omega
      rw [hf]
      exact vcD_less X all tab r _ _ _ _ K (fun p hp => by simp [hp]) hv
    · have hmr : (i, oi) ∈ r := by
        simp only [List.mem_cons, Prod.mk.injEq] at hm
        rcases hm with h | h
        · exact absurd h.1.symm hji
        · exact h
      have hlt : j < i := hsj _ hmr
      obtain ⟨htab, hap, hap'⟩ := hp j oj (by simp) hlt
      obtain ⟨a1, a2, a3⟩ := Oper.apart_spec hap
      obtain ⟨sj, Rj, hne, hkj, hTj⟩ := gT_conj X all oj env H
      rw [hTj] at hT
      obtain ⟨hsj', hall⟩ := hT
      have hput : ∀ (v : SV) (t : Nat), t ∈ oi.looksAt all → putE env oj.dst v t = env t := fun v t ht => putE_other env v (fun e => a3 t e ht)
      have hput' : ∀ (v : SV) (t : Nat), t ∈ oj.looksAt all → putE env oi.dst v t = env t := fun v t ht => putE_other env v (fun e => a1 t e ht)
      have ih : ∀ v u, Rj v u → _ := fun v u hR => vcD_pick X all tab i oi r ((j, rOf X oj env H, wOf X oj env H) :: past) (putE env oj.dst v) (upds H u) K hsr hmr (fun k ok hk => hp k ok (by simp [hk])) (hall v u hR)
      obtain ⟨v0, u0, hR0⟩ := hne hsj'
      -- what the operation looks at is the same ahead of j and behind it
      have back : ∀ v u, Rj v u → chk tab i (rOf X oi (putE env oj.dst v) (upds H u)) (wOf X oi (putE env oj.dst v) (upds H u)) ((j, rOf X oj env H, wOf X oj env H) :: past) = true →
          (∀ q ∈ rOf X oi (putE env oj.dst v) (upds H u), upds H u q = H q) := by
        intro v u hR hc q hq
        unfold chk at hc
        rw [List.all_cons, Bool.and_eq_true] at hc
        have := hc.1
        rw [htab] at this
        simp only [Bool.not_true, Bool.false_or, Bool.and_eq_true] at this
        exact upds_other u H q (fun p hp e => disj_mem this.1.2 (hkj v u hR p hp) (by rw [e]; exact hq))
      have eRW : ∀ v u, Rj v u → rOf X oi (putE env oj.dst v) (upds H u) = rOf X oi env H ∧ wOf X oi (putE env oj.dst v) (upds H u) = wOf X oi env H := fun v u hR =>
        ⟨foot_agree X (all := all) (fun t ht => hput v t ht) (back v u hR (ih v u hR).2.1), w_agree X (all := all) (fun t ht => hput v t ht) (back v u hR (ih v u hR).2.1)⟩
      obtain ⟨hdi, hci, _⟩ := ih v0 u0 hR0
      rw [(eRW v0 u0 hR0).1, (eRW v0 u0 hR0).2] at hci
      have hci' := hci
      unfold chk at hci'
      rw [List.all_cons, Bool.and_eq_true] at hci'
      have hdis : disj (wOf X oi env H) (rOf X oj env H) = true ∧ disj (wOf X oj env H) (rOf X oi env H) = true ∧ disj (wOf X oi env H) (wOf X oj env H) = true := by
        have := hci'.1
        rw [htab] at this
        simp only [Bool.not_true, Bool.false_or, Bool.and_eq_true] at this
        exact ⟨this.1.1, this.1.2, this.2⟩
      obtain ⟨d1, d2, d3⟩ := hdis
      refine ⟨hdi, hci'.2, ?_⟩
      -- the operation's own predicate is the same ahead of j and behind it
      have same : ∀ v u, Rj v u → gT X all oi (putE env oj.dst v) (upds H u) = gT X all oi env H := fun v u hR =>
        (gT_agree X (all := all) (fun t ht => (hput v t ht).symm) (fun q hq => (upds_other u H q (fun p hp e => disj_mem d2 (hkj v u hR p hp) (by rw [e]; exact hq))).symm)).symm
      obtain ⟨si, Ri, hnei, hki, hTi⟩ := gT_conj X all oi env H
      rw [hTi]
      have hsi : si := by
        have := (ih v0 u0 hR0).2.2
        rw [same v0 u0 hR0, hTi] at this
        exact this.1
      refine ⟨hsi, fun vi ui hRi => ?_⟩
      have hf : ((j, oj) :: r).filter (fun p => p.1 != i) = (j, oj) :: r.filter fun p => p.1 != i := List.filter_cons_of_pos (by simpa using hji)
      rw [hf]
      simp only [vcD]
      have ag : ∀ q ∈ rOf X oj env H, H q = upds H ui q := fun q hq => (upds_other ui H q (fun p hp e => disj_mem d1 (hki vi ui hRi p hp) (by rw [e]; exact hq))).symm
      have eRj : rOf X oj (putE env oi.dst vi) (upds H ui) = rOf X oj env H := (foot_agree X (all := all) (fun t ht => (hput' vi t ht).symm) ag).symm
      have eWj : wOf X oj (putE env oi.dst vi) (upds H ui) = wOf X oj env H := (w_agree X (all := all) (fun t ht => (hput' vi t ht).symm) ag).symm
      rw [eRj, eWj]
      refine ⟨hdj, hcj, ?_⟩
      have same' : gT X all oj (putE env oi.dst vi) (upds H ui) = gT X all oj env H :=
        (gT_agree X (all := all) (fun t ht => (hput' vi t ht).symm) (fun q hq => (upds_other ui H q (fun p hp e => disj_mem d1 (hki vi ui hRi p hp) (by rw [e]; exact hq))).symm)).symm
      rw [same', hTj]
      refine ⟨hsj', fun v u hR => ?_⟩
      have := (ih v u hR).2.2
      rw [same v u hR, hTi] at this
      have := this.2 vi ui hRi
      rw [putE_comm env v vi (fun d h1 h2 => (Oper.apart_spec hap').2.1 d h1 h2), upds_comm H u ui (fun p hp q hq e => disj_mem d3 (hki vi ui hRi q hq) (by rw [← e]; exact hkj v u hR p hp))] at this
      exact this

def pairs : Nat → List Oper → Ops
  | _, [] => []
  | k, o :: r => (k, o) :: pairs (k + 1) r

theorem pairs_mem : ∀ (l : List Oper) (k i : Nat) (o : Oper), (i, o) ∈ pairs k l ↔ k ≤ i ∧ l[i - k]? = some o
  | [], k, i, o => by simp [pairs]
  | x :: r, k, i, o => by
    simp only [pairs, List.mem_cons, Prod.mk.injEq, pairs_mem r (k + 1) i o]
    constructor
    · rintro (⟨rfl, rfl⟩ | ⟨h1, h2⟩)
      · simp
      · refine ⟨by omega, ?_⟩
        rw [show i - k = (i - (k + 1)) + 1 by omega, List.getElem?_cons_succ]
        exact h2
    · rintro ⟨h1, h2⟩
      by_cases h : i = k
      · subst h; rw [Nat.sub_self] at h2; simp at h2; exact .inl ⟨rfl, h2.symm⟩
      · refine .inr ⟨by omega, ?_⟩
        rw [show i - k = (i - (k + 1)) + 1 by omega, List.getElem?_cons_succ] at h2
        exact h2

theorem pairs_sorted : ∀ (l : List Oper) (k : Nat), (pairs k l).Pairwise fun p q => p.1 < q.1
  | [], _ => .nil
  | x :: r, k => by
    refine .cons (fun q hq => ?_) (pairs_sorted r (k + 1))
    obtain ⟨i, o⟩ := q
    have := ((pairs_mem r (k + 1) i o).1 hq).1
    show k < i
    omega

theorem waits_listed (ops : Array Oper) {listed : Array Bool} (hcl : ∀ k ok, ops[k]? = some ok → listed.getD k false = true → ∀ e ∈ ok.after, Region.binds .any e = true → listed.getD e.on false = true) :
    ∀ (f i j : Nat) (oi : Oper), ops[i]? = some oi → (∀ e ∈ oi.after, Region.binds .any e = true → listed.getD e.on false = true) → waits ops f i j = true → listed.getD j false = true
  | 0, _, _, _, _, _, h => by cases h
  | f + 1, i, j, oi, hi, hl, h => by
    simp only [waits, hi] at h
    rw [← Array.any_toList] at h
    obtain ⟨e, he', h⟩ := List.any_eq_true.1 h
    have he : e ∈ oi.after := by simpa using he'
    simp only [Bool.and_eq_true, Bool.or_eq_true, beq_iff_eq] at h
    obtain ⟨hb, h⟩ := h
    have hle := hl e he hb
    rcases h with rfl | h
    · exact hle
    · cases hk : ops[e.on]? with
      | none =>
        cases f with
        | zero => cases h
        | succ f => simp only [waits, hk] at h; cases h
      | some ok => exact waits_listed ops hcl f e.on j ok hk (hcl e.on ok hk hle) h

theorem orderOk_spec {ops : Array Oper} {tab : List (List Nat)} (h : orderOk ops tab = true) (i : Nat) (oi : Oper) (hi : ops[i]? = some oi) :
    (∀ e ∈ oi.after, Region.binds .any e = true → e.on < i) ∧ ∀ j, j < i → ((tab.getD i []).contains j = true ∧ ∃ oj, ops[j]? = some oj ∧ oi.apart ops oj = true ∧ oj.apart ops oi = true) ∨ waits ops ops.size i j = true := by
  have hlt : i < ops.size := (Array.getElem?_eq_some_iff.1 hi).1
  have := List.all_eq_true.1 h i (List.mem_range.2 hlt)
  rw [hi] at this
  simp only [Bool.and_eq_true] at this
  obtain ⟨⟨h1, _⟩, h2⟩ := this
  refine ⟨fun e he hb => ?_, fun j hj => ?_⟩
  · have := Array.all_eq_true_iff_forall_mem.1 h1 e he
    rw [hb] at this
    simpa using this
  · have := List.all_eq_true.1 h2 j (List.mem_range.2 hj)
    split at this
    · rename_i hc
      split at this
      · rename_i oj hoj
        simp only [Bool.and_eq_true] at this
        exact .inl ⟨hc, oj, hoj, this.1, this.2⟩
      · cases this
    · exact .inr this

theorem any_sound (X : Ctx P) (ops : Array Oper) (tab : List (List Nat)) (hO : orderOk ops tab = true) {Q : Exit → Act → World → Prop} {K : Env → Heap → Prop}
    (hQ : ∀ env' H' a' w', K env' H' → EnvOk n env' a' → HSat w0 M H' w' → Q .normal a' w') : ∀ (fuel : Nat) (listed : Array Bool) (l : Ops) (env : Env) (H : Heap) (a : Act) (w : World),
    listed.size = ops.size → l.length = fuel → l.Pairwise (fun p q => p.1 < q.1) → (∀ i o, (i, o) ∈ l ↔ listed.getD i true = false ∧ ops[i]? = some o) →
    (∀ k ok, ops[k]? = some ok → listed.getD k false = true → ∀ e ∈ ok.after, Region.binds .any e = true → listed.getD e.on false = true) →
    EnvOk n env a → HSat w0 M H w → vcD X n ops tab l [] env H K → wpAny P .any ops Q fuel listed a w := by
  intro fuel
  induction fuel with
  | zero =>
    intro listed l env H a w hsz hlen _ hl _ hE hH h
    obtain rfl : l = [] := List.eq_nil_of_length_eq_zero hlen
    refine ⟨?_, hQ env H a w h hE hH⟩
    by_cases hr : Region.ready .any ops listed = []
    · exact hr
    · obtain ⟨j, hj⟩ := List.exists_mem_of_ne_nil _ hr
      obtain ⟨h0, o, ho, _⟩ := mem_ready.1 hj
      have := (hl j o).2 ⟨h0, ho⟩
      cases this
  | succ fuel ih =>
    intro listed l env H a w hsz hlen hs hl hcl hE hH h
    constructor
    · intro hr
      -- the least one that is left may come up
      exfalso
      cases l with
      | nil => simp at hlen
      | cons p r =>
        obtain ⟨i, o⟩ := p
        obtain ⟨h0, ho⟩ := (hl i o).1 (by simp)
        have hmem : i ∈ Region.ready .any ops listed := by
          refine mem_ready.2 ⟨h0, o, ho, fun e he hb => ?_⟩
          have hlt := (orderOk_spec hO i o ho).1 e he hb
          cases hek : listed.getD e.on true with
          | true =>
            have hlt2 : e.on < listed.size := by have := (Array.getElem?_eq_some_iff.1 ho).1; omega
            rw [Array.getD_eq_getD_getElem?, Array.getElem?_eq_getElem hlt2] at hek ⊢
            exact hek
          | false =>
            have hlt2 : e.on < ops.size := by have := (Array.getElem?_eq_some_iff.1 ho).1; omega
            have := (hl e.on ops[e.on]).2 ⟨hek, Array.getElem?_eq_getElem hlt2⟩
            simp only [List.mem_cons, Prod.mk.injEq] at this
            rcases this with h | h
            · omega
            · have := (List.pairwise_cons.1 hs).1 _ h
              simp at this
              omega
        rw [hr] at hmem
        cases hmem
    · intro i hi
      obtain ⟨h0, oi, hoi, hpre⟩ := mem_ready.1 hi
      have hmem := (hl i oi).2 ⟨h0, hoi⟩
      have hcond : ∀ j oj, (j, oj) ∈ l → j < i → (tab.getD i []).contains j = true ∧ oi.apart ops oj = true ∧ oj.apart ops oi = true := by
        intro j oj hj hlt
        obtain ⟨hj0, hoj⟩ := (hl j oj).1 hj
        rcases (orderOk_spec hO i oi hoi).2 j hlt with ⟨h1, oj', hoj', h2, h3⟩ | hw
        · rw [hoj] at hoj'
          injection hoj' with e
          subst e
          exact ⟨h1, h2, h3⟩
        · have := waits_listed ops hcl _ i j oi hoi hpre hw
          have hlt2 : j < listed.size := by have := (Array.getElem?_eq_some_iff.1 hoj).1; omega
          rw [Array.getD_eq_getD_getElem?, Array.getElem?_eq_getElem hlt2] at this hj0
          simp at this hj0
          rw [hj0] at this
          cases this
      obtain ⟨hd, _, hT⟩ := vcD_pick X ops tab i oi l [] env H K hs hmem hcond h
      unfold wpOp
      rw [hoi]
      simp only
      have hilt : i < listed.size := by have := (Array.getElem?_eq_some_iff.1 hoi).1; omega
      refine gT_sound X ops oi hE hH hd hT _ fun v u a' w' hv hE' hH' => ih (listed.setIfInBounds i true) (l.filter fun p => p.1 != i) _ _ a' w' (by simpa using hsz) ?_ (hs.filter _) ?_ ?_ hE' hH' hv
      · have h1 := filter_len l i oi hs hmem
        omega
      · intro k ok
        simp only [List.mem_filter, hl k ok]
        by_cases hk : k = i
        · subst hk
          simp [hilt]
        · rw [getD_set_ne true (Ne.symm hk)]
          simp [hk]
      · intro k ok hok hk e he hb
        by_cases hki : k = i
        · subst hki
          rw [hoi] at hok
          injection hok with hok
          subst hok
          exact getD_set_true (hpre e he hb)
        · rw [getD_set_ne false (Ne.symm hki)] at hk
          exact getD_set_true (hcl k ok hok hk e he hb)
where
  filter_len (l : Ops) (i : Nat) (oi : Oper) (hs : l.Pairwise fun p q => p.1 < q.1) (hm : (i, oi) ∈ l) : (l.filter fun p => p.1 != i).length + 1 = l.length := by
    induction l with
    | nil => cases hm
    | cons p r ih =>
      obtain ⟨h1, h2⟩ := List.pairwise_cons.1 hs
      by_cases hp : p.1 = i
      · have hf : r.filter (fun p => p.1 != i) = r := List.filter_eq_self.2 fun q hq => by have := h1 q hq; simp; omega
        rw [List.filter_cons_of_neg (by simp [hp]), hf]
        rfl
      · rw [List.filter_cons_of_pos (by simpa using hp)]
        have : (i, oi) ∈ r := by
          simp only [List.mem_cons] at hm
          rcases hm with h | h
          · exact absurd (by rw [← h]) hp
          · exact h
        have := ih h2 this
        simp only [List.length_cons]
        omega

theorem regionD_sound (X : Ctx P) (hm : P.follows .mixedOrders = true) {id : Nat} {ops : Array Oper} (tab : List (List Nat)) (hO : orderOk ops tab = true) {Q : Exit → Act → World → Prop} {env : Env} {H : Heap} {a : Act} {w : World} {K : Env → Heap → Prop} (hE : EnvOk n env a) (hH : HSat w0 M H w) (h : vcD X n ops tab (pairs 0 ops.toList) [] env H K)
    (hQ : ∀ env' H' a' w', K env' H' → EnvOk n env' a' → HSat w0 M H' w' → Q .normal a' w') : (Code.region id ops true).wp P Q a w := by
  refine wp_region_any hm ?_
  refine any_sound X ops tab hO hQ ops.size _ (pairs 0 ops.toList) env H a _ (by simp) ?_ (pairs_sorted _ _) ?_ ?_ hE hH.drew h
  · have : ∀ (l : List Oper) (k : Nat), (pairs k l).length = l.length := by
      intro l
      induction l with
      | nil => intro k; rfl
      | cons o r ih => intro k; simp [pairs, ih]
    rw [this]
    simp
  · intro i o
    rw [pairs_mem]
    simp only [Nat.zero_le, true_and, Nat.sub_zero, Array.getElem?_toList]
    constructor
    · intro h
      have hlt := (Array.getElem?_eq_some_iff.1 h).1
      exact ⟨by simp [hlt], h⟩
    · exact fun h => h.2
  · intro k ok hk hl
    have hlt := (Array.getElem?_eq_some_iff.1 hk).1
    simp [hlt] at hl

/-! ### How they are reckoned: a test that has been decided stands decided in its slot -/
def gT2 (X : Ctx P) (all : Array Oper) (o : Oper) (env : Env) (H : Heap) (C : Env → KT) : Prop :=
  match o.guard with
  | none => opT X.F X.Γ o.op (ev env) (restrict H (foot X.F.refs H o.op (ev env))) (o.dst.getD 0) (C env)
  | some (j, want) => match (all[j]?).bind (·.dst) with
    | some t => match env t with
      | .c (.v (.bool b)) => (b = want → opT X.F X.Γ o.op (ev env) (restrict H (foot X.F.refs H o.op (ev env))) (o.dst.getD 0) (C (upd env t (.c (.v (.bool want)))))) ∧ (b = !want → C (upd env t (.c (.v (.bool !want)))) (.tup []) [])
      | .tup _ => C env (.tup []) []
      | _ => False
    | none => False

theorem upd_self {env : Env} {t : Nat} {v : SV} (h : env t = v) : upd env t v = env := by
  funext k
  simp only [upd_apply]
  split
  · rename_i e; rw [e, h]
  · rfl

theorem gT2_eq (X : Ctx P) (all : Array Oper) (o : Oper) (env : Env) (H : Heap) (C : Env → KT) : gT2 X all o env H C = gT X all o env H (C env) := by
  unfold gT2 gT
  cases hg : o.guard with
  | none => rfl
  | some gw =>
    obtain ⟨j, want⟩ := gw
    simp only
    cases hs : (all[j]?).bind (·.dst) with
    | none => rfl
    | some t =>
      simp only [Option.map_some]
      split
      · rename_i b hb
        rw [hb]
        apply propext
        constructor
        · rintro ⟨h1, h2⟩
          refine ⟨fun e => ?_, fun e => ?_⟩
          · have := h1 e; rw [← e, upd_self hb] at this; exact this
          · have := h2 e; rw [← e, upd_self hb] at this; exact this
        · rintro ⟨h1, h2⟩
          refine ⟨fun e => ?_, fun e => ?_⟩
          · rw [← e, upd_self hb]; exact h1 e
          · rw [← e, upd_self hb]; exact h2 e
      · rename_i l hl
        rw [hl]
      · rename_i hn hn2
        split
        · rename_i b hb
          injection hb with hb
          exact absurd hb (hn b)
        · rename_i l hb
          injection hb with hb
          exact absurd hb (hn2 l)
        · rfl

def cOps (X : Ctx P) (n : Nat) (all : Array Oper) (r : List Oper) (dst : Option Nat) (H : Heap) (K : Env → Heap → Prop) (env : Env) : KT := fun v u => vcOps X n all r (putE env dst v) (upds H u) K
theorem cOps_at (X : Ctx P) (n : Nat) (all : Array Oper) (r : List Oper) (dst : Option Nat) (H : Heap) (K : Env → Heap → Prop) (env : Env) (v : SV) (u : Upd) : cOps X n all r dst H K env v u = vcOps X n all r (putE env dst v) (upds H u) K := rfl
theorem vcOps_step (X : Ctx P) (n : Nat) (all : Array Oper) (o : Oper) (r : List Oper) (env : Env) (H : Heap) (K : Env → Heap → Prop) : vcOps X n all (o :: r) env H K = (dstOk n o = true ∧ gT2 X all o env H (cOps X n all r o.dst H K)) := by
  rw [vcOps_cons, gT2_eq]
  rfl
def cD (X : Ctx P) (n : Nat) (all : Array Oper) (tab : List (List Nat)) (r : List (Nat × Oper)) (past : Past) (dst : Option Nat) (H : Heap) (K : Env → Heap → Prop) (env : Env) : KT := fun v u => vcD X n all tab r past (putE env dst v) (upds H u) K
theorem cD_at (X : Ctx P) (n : Nat) (all : Array Oper) (tab : List (List Nat)) (r : List (Nat × Oper)) (past : Past) (dst : Option Nat) (H : Heap) (K : Env → Heap → Prop) (env : Env) (v : SV) (u : Upd) : cD X n all tab r past dst H K env v u = vcD X n all tab r past (putE env dst v) (upds H u) K := rfl
theorem vcD_step (X : Ctx P) (n : Nat) (all : Array Oper) (tab : List (List Nat)) (i : Nat) (o : Oper) (r : List (Nat × Oper)) (past : Past) (env : Env) (H : Heap) (K : Env → Heap → Prop) :
    vcD X n all tab ((i, o) :: r) past env H K = (dstOk n o = true ∧ chk tab i (rOf X o env H) (wOf X o env H) past = true ∧ gT2 X all o env H (cD X n all tab r ((i, rOf X o env H, wOf X o env H) :: past) o.dst H K)) := by
  rw [vcD_cons, gT2_eq]
  rfl

end Go.Proofs.Ytjlgeoaomegbmaa.Eng
