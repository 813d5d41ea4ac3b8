/- A function's text: what its predicate says, it does; loops by what holds at their heads; no condition. -/
import Derived.Test.YtjlgeoaomegbmaaEng11
namespace Go.Proofs.Ytjlgeoaomegbmaa.Eng
open Go Go.RowKit
set_option autoImplicit false
set_option linter.unusedSimpArgs false
set_option linter.unusedVariables false

variable {P : Program} {n : Nat} {w0 : World} {M : Nat → Prop}

inductive VX where
  | normal
  | ret
  | exit (id : Nat)

abbrev QT := VX → Env → Heap → Prop
abbrev Tabs := List (Nat × List (List Nat))
def tabOf (tabs : Tabs) (id : Nat) : List (List Nat) := match tabs with
  | [] => []
  | (i, t) :: r => if i = id then t else tabOf r id

def lift (n : Nat) (w0 : World) (M : Nat → Prop) (Q : QT) : Exit → Act → World → Prop
  | .normal, a, w => ∃ env H, Q .normal env H ∧ EnvOk n env a ∧ HSat w0 M H w
  | .ret, a, w => ∃ env H, Q .ret env H ∧ EnvOk n env a ∧ HSat w0 M H w
  | .exit id, a, w => ∃ env H, Q (.exit id) env H ∧ EnvOk n env a ∧ HSat w0 M H w
  | _, _, _ => False

/-- Each region that draws its order is one that the table fits. -/
def tabsOk (tabs : Tabs) : Code → Bool
  | .region id ops draw => if draw then orderOk ops (tabOf tabs id) else true
  | .seq a b => tabsOk tabs a && tabsOk tabs b
  | .cond _ a b => tabsOk tabs a && tabsOk tabs b
  | .block _ a => tabsOk tabs a
  | .loop a => tabsOk tabs a
  | .scope a => tabsOk tabs a
  | .rangeFunc _ _ a b => tabsOk tabs a && tabsOk tabs b
  | _ => true

/-- A piece of text from a state on: what it comes to meets Q. -/
def Does (P : Program) (n : Nat) (c : Code) (Q : QT) (env : Env) (H : Heap) : Prop :=
  ∀ (w0 : World) (M : Nat → Prop) (a : Act) (w : World), EnvOk n env a → HSat w0 M H w → c.wp P (lift n w0 M Q) a w

/-- A loop, to be met by what holds at its head. -/
structure LoopAt (P : Program) (n : Nat) (tabs : Tabs) (body : Code) (Q : QT) (env : Env) (H : Heap) : Prop where
  h : tabsOk tabs body = true → Does P n (.loop body) Q env H
structure RangeAt (P : Program) (n : Nat) (tabs : Tabs) (c : Code) (Q : QT) (env : Env) (H : Heap) : Prop where
  h : tabsOk tabs c = true → Does P n c Q env H

theorem LoopAt_def (P : Program) (n : Nat) (tabs : Tabs) (body : Code) (Q : QT) (env : Env) (H : Heap) : LoopAt P n tabs body Q env H = (tabsOk tabs body = true → Does P n (.loop body) Q env H) := propext ⟨fun x => x.h, fun x => ⟨x⟩⟩
theorem RangeAt_def (P : Program) (n : Nat) (tabs : Tabs) (c : Code) (Q : QT) (env : Env) (H : Heap) : RangeAt P n tabs c Q env H = (tabsOk tabs c = true → Does P n c Q env H) := propext ⟨fun x => x.h, fun x => ⟨x⟩⟩

def inBlk (id : Nat) (Q : QT) : QT
  | .exit id', env, H => if id' = id then Q .normal env H else Q (.exit id') env H
  | e, env, H => Q e env H
def thenV (Q : QT) (next : Env → Heap → Prop) : QT
  | .normal, env, H => next env H
  | e, env, H => Q e env H

def atNormal (Q : QT) : Env → Heap → Prop := fun env H => Q .normal env H
theorem atNormal_at (Q : QT) (env : Env) (H : Heap) : atNormal Q env H = Q .normal env H := rfl

def vc (X : Ctx P) (n : Nat) (tabs : Tabs) : Code → QT → Env → Heap → Prop
  | .skip, Q, env, H => Q .normal env H
  | .region id ops true, Q, env, H => vcD X n ops (tabOf tabs id) (pairs 0 ops.toList) [] env H (atNormal Q)
  | .region id ops false, Q, env, H => vcOps X n ops ops.toList env H (atNormal Q)
  | .seq a b, Q, env, H => vc X n tabs a (thenV Q fun env H => vc X n tabs b Q env H) env H
  | .cond c t e, Q, env, H => match ev env c with
    | .c (.v (.bool b)) => (b = true → vc X n tabs t Q env H) ∧ (b = false → vc X n tabs e Q env H)
    | _ => False
  | .block id c, Q, env, H => vc X n tabs c (inBlk id Q) env H
  | .loop c, Q, env, H => LoopAt P n tabs c Q env H
  | .rangeFunc f ps as b, Q, env, H => RangeAt P n tabs (.rangeFunc f ps as b) Q env H
  | .exit id, Q, env, H => Q (.exit id) env H
  | .ret, Q, env, H => Q .ret env H
  | _, _, _, _ => False

/-- What comes behind a piece of text, held back till its end is known. -/
def behind (X : Ctx P) (n : Nat) (tabs : Tabs) (b : Code) (Q : QT) : QT := thenV Q fun env H => vc X n tabs b Q env H
theorem vc_seq (X : Ctx P) (n : Nat) (tabs : Tabs) (a b : Code) (Q : QT) (env : Env) (H : Heap) : vc X n tabs (.seq a b) Q env H = vc X n tabs a (behind X n tabs b Q) env H := rfl
theorem behind_normal (X : Ctx P) (n : Nat) (tabs : Tabs) (b : Code) (Q : QT) (env : Env) (H : Heap) : behind X n tabs b Q .normal env H = vc X n tabs b Q env H := rfl
theorem behind_ret (X : Ctx P) (n : Nat) (tabs : Tabs) (b : Code) (Q : QT) (env : Env) (H : Heap) : behind X n tabs b Q .ret env H = Q .ret env H := rfl
theorem behind_exit (X : Ctx P) (n : Nat) (tabs : Tabs) (b : Code) (Q : QT) (i : Nat) (env : Env) (H : Heap) : behind X n tabs b Q (.exit i) env H = Q (.exit i) env H := rfl
theorem thenV_normal (Q : QT) (K : Env → Heap → Prop) (env : Env) (H : Heap) : thenV Q K .normal env H = K env H := rfl
theorem thenV_ret (Q : QT) (K : Env → Heap → Prop) (env : Env) (H : Heap) : thenV Q K .ret env H = Q .ret env H := rfl
theorem thenV_exit (Q : QT) (K : Env → Heap → Prop) (i : Nat) (env : Env) (H : Heap) : thenV Q K (.exit i) env H = Q (.exit i) env H := rfl
theorem inBlk_normal (k : Nat) (Q : QT) (env : Env) (H : Heap) : inBlk k Q .normal env H = Q .normal env H := rfl
theorem inBlk_ret (k : Nat) (Q : QT) (env : Env) (H : Heap) : inBlk k Q .ret env H = Q .ret env H := rfl
theorem inBlk_exit (k : Nat) (Q : QT) (i : Nat) (env : Env) (H : Heap) : inBlk k Q (.exit i) env H = if i = k then Q .normal env H else Q (.exit i) env H := rfl
theorem vc_skip (X : Ctx P) (n : Nat) (tabs : Tabs) (Q : QT) (env : Env) (H : Heap) : vc X n tabs .skip Q env H = Q .normal env H := rfl
theorem vc_regD (X : Ctx P) (n : Nat) (tabs : Tabs) (id : Nat) (ops : Array Oper) (Q : QT) (env : Env) (H : Heap) : vc X n tabs (.region id ops true) Q env H = vcD X n ops (tabOf tabs id) (pairs 0 ops.toList) [] env H (atNormal Q) := rfl
theorem vc_reg (X : Ctx P) (n : Nat) (tabs : Tabs) (id : Nat) (ops : Array Oper) (Q : QT) (env : Env) (H : Heap) : vc X n tabs (.region id ops false) Q env H = vcOps X n ops ops.toList env H (atNormal Q) := rfl
theorem vc_cond (X : Ctx P) (n : Nat) (tabs : Tabs) (c : Operand) (t e : Code) (Q : QT) (env : Env) (H : Heap) : vc X n tabs (.cond c t e) Q env H = match ev env c with
    | .c (.v (.bool b)) => (b = true → vc X n tabs t Q env H) ∧ (b = false → vc X n tabs e Q env H)
    | _ => False := rfl
theorem vc_block (X : Ctx P) (n : Nat) (tabs : Tabs) (id : Nat) (c : Code) (Q : QT) (env : Env) (H : Heap) : vc X n tabs (.block id c) Q env H = vc X n tabs c (inBlk id Q) env H := rfl
theorem vc_loop (X : Ctx P) (n : Nat) (tabs : Tabs) (c : Code) (Q : QT) (env : Env) (H : Heap) : vc X n tabs (.loop c) Q env H = LoopAt P n tabs c Q env H := rfl
theorem vc_range (X : Ctx P) (n : Nat) (tabs : Tabs) (f : Operand) (ps : Array Tmp) (as b : Code) (Q : QT) (env : Env) (H : Heap) : vc X n tabs (.rangeFunc f ps as b) Q env H = RangeAt P n tabs (.rangeFunc f ps as b) Q env H := rfl
theorem vc_exit (X : Ctx P) (n : Nat) (tabs : Tabs) (id : Nat) (Q : QT) (env : Env) (H : Heap) : vc X n tabs (.exit id) Q env H = Q (.exit id) env H := rfl
theorem vc_ret (X : Ctx P) (n : Nat) (tabs : Tabs) (Q : QT) (env : Env) (H : Heap) : vc X n tabs .ret Q env H = Q .ret env H := rfl

theorem vc_sound (X : Ctx P) (hm : P.follows .mixedOrders = true) (tabs : Tabs) : ∀ (c : Code), tabsOk tabs c = true → ∀ (Q : QT) (env : Env) (H : Heap), vc X n tabs c Q env H → Does P n c Q env H
  | .skip, _, Q, env, H, h => fun w0 M a w hE hH => wp_skip ⟨env, H, h, hE, hH⟩
  | .region id ops draw, ht, Q, env, H, h => fun w0 M a w hE hH => by
    simp only [tabsOk] at ht
    cases draw with
    | true =>
      rw [if_pos rfl] at ht
      rw [vc_regD] at h
      exact regionD_sound X hm (tabOf tabs id) ht hE hH h fun env' H' a' w' hQ hE' hH' => ⟨env', H', hQ, hE', hH'⟩
    | false =>
      rw [vc_reg] at h
      exact region_sound X hE hH h fun env' H' a' w' hQ hE' hH' => ⟨env', H', hQ, hE', hH'⟩
  | .seq x y, ht, Q, env, H, h => fun w0 M a w hE hH => by
    simp only [tabsOk, Bool.and_eq_true] at ht
    refine wp_seq (wp_mono (vc_sound X hm tabs x ht.1 _ env H h w0 M a w hE hH) ?_)
    intro e a' w' hq
    cases e with
    | normal =>
      obtain ⟨env', H', hv, hE', hH'⟩ := hq
      exact vc_sound X hm tabs y ht.2 Q env' H' hv w0 M a' w' hE' hH'
    | ret => exact hq
    | exit id => exact hq
    | _ => exact hq
  | .cond c t e, ht, Q, env, H, h => fun w0 M a w hE hH => by
    simp only [tabsOk, Bool.and_eq_true] at ht
    simp only [vc] at h
    split at h
    · rename_i b hc
      refine wp_cond_split (eval_v hE hc) (fun hb => vc_sound X hm tabs t ht.1 Q env H (h.1 hb) w0 M a w hE hH) (fun hb => vc_sound X hm tabs e ht.2 Q env H (h.2 hb) w0 M a w hE hH)
    · exact h.elim
  | .block id c, ht, Q, env, H, h => fun w0 M a w hE hH => by
    refine wp_block (wp_mono (vc_sound X hm tabs c ht _ env H h w0 M a w hE hH) ?_)
    intro e a' w' hq
    cases e with
    | exit id' =>
      obtain ⟨env', H', hv, hE', hH'⟩ := hq
      simp only [inBlk] at hv
      simp only [Exit.inBlock]
      split
      · rename_i hid
        rw [if_pos hid] at hv
        exact ⟨env', H', hv, hE', hH'⟩
      · rename_i hid
        rw [if_neg hid] at hv
        exact ⟨env', H', hv, hE', hH'⟩
    | normal => exact hq
    | ret => exact hq
    | _ => exact hq
  | .loop c, ht, Q, env, H, h => by
    rw [vc_loop, LoopAt_def] at h
    exact h ht
  | .rangeFunc f ps as b, ht, Q, env, H, h => by
    rw [vc_range, RangeAt_def] at h
    exact h ht
  | .exit id, _, Q, env, H, h => fun w0 M a w hE hH => wp_exit ⟨env, H, h, hE, hH⟩
  | .ret, _, Q, env, H, h => fun w0 M a w hE hH => wp_ret ⟨env, H, h, hE, hH⟩
  | .scope _, _, _, _, _, h => h.elim
  | .label _, _, _, _, _, h => h.elim
  | .goto _, _, _, _, _, h => h.elim
  | .refuse _, _, _, _, _, h => h.elim

/-! ### States by lists -/
def envOf : List (Nat × SV) → Env
  | [] => fun _ => .c .any
  | (s, v) :: r => fun t => if t = s then v else envOf r t
def heapOf : List (Nat × Ent) → Heap
  | [] => fun _ => none
  | (s, v) :: r => fun t => if t = s then some v else heapOf r t

theorem envOf_some : ∀ (L : List (Nat × SV)) (t : Nat), (envOf L t).known = true → ∃ v, (t, v) ∈ L ∧ envOf L t = v
  | [], t, h => by cases h
  | (s, v) :: r, t, h => by
    simp only [envOf] at h ⊢
    split
    · rename_i e; subst e; exact ⟨v, by simp, rfl⟩
    · rename_i e
      rw [if_neg e] at h
      obtain ⟨v', h1, h2⟩ := envOf_some r t h
      exact ⟨v', by simp [h1], h2⟩
theorem heapOf_some : ∀ (L : List (Nat × Ent)) (t : Nat) (e : Ent), heapOf L t = some e → ∃ k : Nat, L[k]? = some (t, e)
  | [], t, e, h => by cases h
  | (s, v) :: r, t, e, h => by
    simp only [heapOf] at h
    split at h
    · rename_i e'; subst e'; injection h with h; subst h; exact ⟨0, rfl⟩
    · obtain ⟨k, hk⟩ := heapOf_some r t e h
      exact ⟨k + 1, hk⟩

/-- The state at hand is one of the listed kind: each listed slot holds what is listed; the things listed are those tracked under the numbers of ρ. -/
def FitsE (env : Env) : List (Nat × SV) → Prop
  | [] => True
  | (s, v) :: r => (env s).known = true ∧ (env s).den = v.den ∧ FitsE env r
def FitsH (H : Heap) : List Nat → List (Nat × Ent) → Prop
  | _, [] => True
  | s :: ρ, (_, e) :: r => H s = some e ∧ FitsH H ρ r
  | [], _ :: _ => False

theorem FitsE.mem {env : Env} : ∀ {L : List (Nat × SV)}, FitsE env L → ∀ p ∈ L, (env p.1).known = true ∧ (env p.1).den = p.2.den
  | [], _, p, hp => by cases hp
  | (s, v) :: r, h, p, hp => by
    simp only [List.mem_cons] at hp
    rcases hp with rfl | hp
    · exact ⟨h.1, h.2.1⟩
    · exact h.2.2.mem p hp
theorem FitsH.get {H : Heap} : ∀ {ρ : List Nat} {E : List (Nat × Ent)}, FitsH H ρ E → ∀ (k t : Nat) (e : Ent), E[k]? = some (t, e) → ∃ s, ρ[k]? = some s ∧ H s = some e
  | _, [], _, k, t, e, h => by simp at h
  | s :: ρ, (t', e') :: r, h, 0, t, e, hk => by simp at hk; obtain ⟨_, rfl⟩ := hk; exact ⟨s, rfl, h.1⟩
  | s :: ρ, (t', e') :: r, h, k + 1, t, e, hk => by
    obtain ⟨s', h1, h2⟩ := FitsH.get h.2 k t e (by simpa using hk)
    exact ⟨s', by simpa using h1, h2⟩

theorem EnvOk.fits {env : Env} {a : Act} {L : List (Nat × SV)} (hE : EnvOk n env a) (h : FitsE env L) : EnvOk n (envOf L) a :=
  ⟨hE.size, fun t ht => by
    obtain ⟨v, hv, e⟩ := envOf_some L t ht
    obtain ⟨h1, h2⟩ := h.mem _ hv
    rw [e, ← h2]
    exact hE.slot t h1, hE.defers⟩

theorem nodup_get {l : List Nat} (h : l.Nodup) {i j : Nat} {x : Nat} (hi : l[i]? = some x) (hj : l[j]? = some x) : i = j := by
  obtain ⟨hi', e1⟩ := List.getElem?_eq_some_iff.1 hi
  obtain ⟨hj', e2⟩ := List.getElem?_eq_some_iff.1 hj
  rcases Nat.lt_trichotomy i j with hlt | rfl | hlt
  · exact absurd (e1.trans e2.symm) (List.pairwise_iff_getElem.1 h i j hi' hj' hlt)
  · rfl
  · exact absurd (e2.trans e1.symm) (List.pairwise_iff_getElem.1 h j i hj' hi' hlt)

theorem HSat.fits {H : Heap} {w : World} {ρ : List Nat} {E : List (Nat × Ent)} (hH : HSat w0 M H w) (hρ : ρ.Nodup) (h : FitsH H ρ E) : HSat w0 M (heapOf E) w := by
  have key : ∀ t e, heapOf E t = some e → ∃ (k s : Nat), E[k]? = some (t, e) ∧ ρ[k]? = some s ∧ H s = some e := by
    intro t e he
    obtain ⟨k, hk⟩ := heapOf_some E t e he
    obtain ⟨s, h1, h2⟩ := h.get k t e hk
    exact ⟨k, s, hk, h1, h2⟩
  refine ⟨hH.fr, fun i e hi => ?_, fun i e hi => ?_, fun i e hi => ?_, fun i j ei ej hij hi hj => ?_⟩
  · obtain ⟨_, s, _, _, hs⟩ := key i e hi; exact hH.holds s e hs
  · obtain ⟨_, s, _, _, hs⟩ := key i e hi; exact hH.lt s e hs
  · obtain ⟨_, s, _, _, hs⟩ := key i e hi; exact hH.own s e hs
  · obtain ⟨k, s, hk, hks, hs⟩ := key i ei hi
    obtain ⟨k', s', hk', hks', hs'⟩ := key j ej hj
    refine hH.sep s s' ei ej ?_ hs hs'
    rintro rfl
    have := nodup_get hρ hks hks'
    subst this
    rw [hk] at hk'
    injection hk' with e
    exact hij (by injection e)

/-- A loop: at its head one of the states of S; each round leads on to another one that is less, or out. -/
theorem loop_rule (X : Ctx P) (hm : P.follows .mixedOrders = true) {tabs : Tabs} {body : Code} {Q : QT} {env : Env} {H : Heap} {σ : Type} (L : σ → List (Nat × SV)) (E : σ → List (Nat × Ent)) (μ : σ → Nat) (s0 : σ) (ρ0 : List Nat)
    (h0 : FitsE env (L s0)) (hn : ρ0.Nodup) (h1 : FitsH H ρ0 (E s0))
    (round : ∀ s, vc X n tabs body (thenV Q fun env' H' => ∃ s' ρ, μ s' < μ s ∧ ρ.Nodup ∧ FitsE env' (L s') ∧ FitsH H' ρ (E s')) (envOf (L s)) (heapOf (E s))) : LoopAt P n tabs body Q env H := by
  rw [LoopAt_def]
  intro ht w0 M a w hE hH
  intro b k cs
  have key : ∀ m s, μ s = m → ∀ a w, EnvOk n (envOf (L s)) a → HSat w0 M (heapOf (E s)) w → ∃ e a' w', lift n w0 M Q e a' w' ∧ Arrives P (lone (b.at a (.code body :: .inLoop body :: k)) cs w) b k cs e a' w' := by
    intro m
    induction m using Nat.strongRecOn with
    | _ m ih =>
      intro s hs a w hE hH
      obtain ⟨e, a1, w1, hq, harr⟩ := vc_sound X hm tabs body ht _ _ _ (round s) w0 M a w hE hH b (.inLoop body :: k) cs
      cases e with
      | normal =>
        obtain ⟨env', H', ⟨s', ρ, hlt, hnd, hf1, hf2⟩, hE', hH'⟩ := hq
        obtain ⟨e2, a2, w2, hq2, harr2⟩ := ih (μ s') (hs ▸ hlt) s' rfl a1 w1 (hE'.fits hf1) (hH'.fits hnd hf2)
        exact ⟨e2, a2, w2, hq2, .of_steps (Steps.trans harr (.one step_inLoop)) harr2⟩
      | ret => exact ⟨.ret, a1, w1, hq, .pass (x := .inLoop body) rfl (fun _ _ => .inl (by simp)) harr⟩
      | exit id => exact ⟨.exit id, a1, w1, hq, .pass (x := .inLoop body) rfl (fun _ _ => .inl (by simp)) harr⟩
      | goto l => exact hq.elim
      | panic c => exact hq.elim
      | outgrown => exact hq.elim
  obtain ⟨e, a', w', hq, harr⟩ := key _ s0 rfl a w (hE.fits h0) (hH.fits hn h1)
  exact ⟨e, a', w', hq, .of_steps (.one step_loop) harr⟩

/-- A cut: on from a listed state alone. -/
theorem cut_rule {c : Code} {Q : QT} {env : Env} {H : Heap} (L : List (Nat × SV)) (E : List (Nat × Ent)) (ρ : List Nat) (h0 : FitsE env L) (hn : ρ.Nodup) (h1 : FitsH H ρ E) (h : Does P n c Q (envOf L) (heapOf E)) : Does P n c Q env H :=
  fun w0 M a w hE hH => h w0 M a w (hE.fits h0) (hH.fits hn h1)

/-! ### A function -/

/-- What a function hands back. -/
def resT (P : Program) : List ResultVar → Env → Heap → (List SV → Prop) → Prop
  | [], _, _, K => K []
  | .tmp t :: r, env, H, K => match env t with
    | .tup _ => False
    | .c .any => False
    | x => resT P r env H fun l => K (x :: l)
  | .cell t ty :: r, env, H, K => match env t with
    | .c (.loc id b off) => match H id with
      | some (.blk b' _ cs) => b = b' ∧ match szT P ty with
        | some (true, m) => off + m ≤ cs.length ∧ resT P r env H fun l => K (.agg ((cs.drop off).take m) :: l)
        | some (false, _) => ∃ x, cs[off]? = some x ∧ resT P r env H fun l => K (.c x :: l)
        | none => False
      | _ => False
    | _ => False

def single : List SV → SV
  | [x] => x
  | l => .tup l

def retQ (P : Program) (rs : List ResultVar) (R : SV → Heap → Prop) : QT
  | .exit _, _, _ => False
  | _, env, H => resT P rs env H fun l => R (single l) H
theorem retQ_normal (rs : List ResultVar) (R : SV → Heap → Prop) (env : Env) (H : Heap) : retQ P rs R .normal env H = resT P rs env H fun l => R (single l) H := rfl
theorem retQ_ret (rs : List ResultVar) (R : SV → Heap → Prop) (env : Env) (H : Heap) : retQ P rs R .ret env H = resT P rs env H fun l => R (single l) H := rfl

def readVar (tmps : Array Value) : ResultVar → Sem Value
  | .tmp t => pure (tmps.getD t undef)
  | .cell s t => do loadVar t (← asAddr (tmps.getD s undef))
theorem results_read (fn : Func) (tmps : Array Value) : results fn tmps = (do let vs ← fn.results.mapM (readVar tmps); pure (if h : vs.size = 1 then vs[0] else .tuple vs)) := by
  unfold results
  congr 1

theorem res_sound {env : Env} {H : Heap} {a : Act} {w : World} (hE : EnvOk n env a) (hH : HSat w0 M H w) : ∀ (rs : List ResultVar) (K : List SV → Prop), resT P rs env H K →
    ∃ l, K l ∧ (rs.mapM (m := Sem) (readVar a.tmps)).run P w = .ok (l.map SV.den) w ∧ (∀ x ∈ l, x.den = x.den0)
  | [], K, h => ⟨[], h, rfl, by simp⟩
  | .tmp t :: r, K, h => by
    simp only [resT] at h
    split at h
    · exact h.elim
    · exact h.elim
    · rename_i h1 h2
      obtain ⟨l, hK, hrun, hl⟩ := res_sound hE hH r _ h
      have hk : (env t).known = true := by
        cases he : env t with
        | tup l => exact absurd he (h1 l)
        | agg l => rfl
        | c c => cases c <;> first | rfl | exact absurd he h2
      have := hE.slot t hk
      refine ⟨env t :: l, hK, ?_, ?_⟩
      · simp only [List.mapM_cons, readVar, Sem.run_bind, Sem.run_pure, Result.andThen_ok, hrun, List.map_cons]
        rw [Array.getD_eq_getD_getElem?, this]
        rfl
      · intro x hx
        simp only [List.mem_cons] at hx
        rcases hx with rfl | hx
        · cases he : env t with
          | tup l => exact absurd he (h1 l)
          | agg l => rfl
          | c c => rfl
        · exact hl x hx
  | .cell t ty :: r, K, h => by
    simp only [resT] at h
    split at h
    · rename_i id b off hx
      have hs := hE.slot t (by rw [hx]; rfl)
      have hget : asAddr (a.tmps.getD t undef) = pure ⟨b, off, none⟩ := by rw [Array.getD_eq_getD_getElem?, hs, hx]; rfl
      split at h
      · rename_i b' t' cs hHid
        obtain ⟨rfl, h⟩ := h
        have hent := hH.holds _ _ hHid
        split at h
        · rename_i m hsz
          obtain ⟨hlen, h⟩ := h
          obtain ⟨l, hK, hrun, hl⟩ := res_sound hE hH r _ h
          refine ⟨_, hK, ?_, ?_⟩
          · have hld := loadVar_agg (P := P) (w := w) hsz ⟨b, off, none⟩ (((cs.drop off).take m).map C.den) (by simp; omega) (by
              intro j u hu
              rw [add_loc, cell_blk hent]
              rw [List.getElem?_map, getElem?_drop_take] at hu
              split at hu
              · rw [List.getElem?_map]; exact hu
              · cases hu)
            simp only [List.mapM_cons, readVar, Sem.run_bind, hget, Sem.run_pure, Result.andThen_ok, hld, hrun, List.map_cons]
            rfl
          · intro x hx
            simp only [List.mem_cons] at hx
            rcases hx with rfl | hx
            · rfl
            · exact hl x hx
        · rename_i m hsz
          obtain ⟨c, hc, h⟩ := h
          obtain ⟨l, hK, hrun, hl⟩ := res_sound hE hH r _ h
          refine ⟨_, hK, ?_, ?_⟩
          · have hld := loadVar_one (P := P) (w := w) hsz ⟨b, off, none⟩ c.den (by rw [cell_blk hent, List.getElem?_map, hc]; rfl)
            simp only [List.mapM_cons, readVar, Sem.run_bind, hget, Sem.run_pure, Result.andThen_ok, hld, hrun, List.map_cons]
            rfl
          · intro x hx
            simp only [List.mem_cons] at hx
            rcases hx with rfl | hx
            · rfl
            · exact hl x hx
        · exact h.elim
      · exact h.elim
    · exact h.elim

theorem results_sound {fn : Func} {env : Env} {H : Heap} {a : Act} {w : World} (hE : EnvOk n env a) (hH : HSat w0 M H w) (R : SV → Heap → Prop) (h : resT P fn.results.toList env H fun l => R (single l) H) :
    ∃ v, R v H ∧ (results fn a.tmps).run P w = .ok v.den w := by
  obtain ⟨l, hK, hrun, hl⟩ := res_sound hE hH _ _ h
  refine ⟨single l, hK, ?_⟩
  rw [results_read, Array.mapM_eq_mapM_toList, Sem.run_bind, Sem.run_map, hrun]
  simp only [Result.andThen_ok, Sem.run_pure]
  cases l with
  | nil => rfl
  | cons x r =>
    cases r with
    | nil => rfl
    | cons y r =>
      have : (x :: y :: r).map SV.den = (x :: y :: r).map SV.den0 := List.map_congr_left hl
      rw [this]
      simp [single, SV.den]

/-- A function's contract out of its text. -/
theorem calls_of_vc (X : Ctx P) (hm : P.follows .mixedOrders = true) {f : FuncId} {fn : Func} {c : Code} (tabs : Tabs) (hf : P.funcs[f]? = some fn) (hb : fn.body = some c) (ht : tabsOk tabs c = true) (vs : Array Value) (L : List (Nat × SV)) (H : Heap) (w : World)
    (hn : fn.ntmps = n) (rs : List ResultVar) (hrs : fn.results.toList = rs) (hvs : vs.size ≤ n) (hL : ∀ p ∈ L, vs[p.1]? = some p.2.den) (hH : HSat w M H w) (R : SV → Heap → Prop) (h : vc X n tabs c (retQ P rs R) (envOf L) H) :
    Calls P f vs w fun e w' => ∃ v H', e = .returned v.den ∧ R v H' ∧ HSat w M H' w' := by
  subst hn hrs
  refine calls_of_wp hf hb (wp_mono (vc_sound X hm tabs c ht _ _ _ h w M _ w ⟨by simp; omega, fun t htk => ?_, rfl⟩ hH) ?_)
  · obtain ⟨v, hv, e⟩ := envOf_some L t htk
    have := hL _ hv
    rw [e]
    have hlt : t < vs.size := (Array.getElem?_eq_some_iff.1 this).1
    rw [Array.getElem?_append_left hlt]
    exact this
  · intro e a' w' hq
    cases e with
    | normal =>
      obtain ⟨env', H', hr, hE', hH'⟩ := hq
      obtain ⟨v, hR, hrun⟩ := results_sound hE' hH' R hr
      exact ⟨hE'.defers, v.den, hrun, v, H', rfl, hR, hH'⟩
    | ret =>
      obtain ⟨env', H', hr, hE', hH'⟩ := hq
      obtain ⟨v, hR, hrun⟩ := results_sound hE' hH' R hr
      exact ⟨hE'.defers, v.den, hrun, v, H', rfl, hR, hH'⟩
    | exit id =>
      obtain ⟨env', H', hr, _, _⟩ := hq
      exact hr.elim
    | goto l => exact hq.elim
    | panic ch => exact hq.elim
    | outgrown => exact hq.elim

end Go.Proofs.Ytjlgeoaomegbmaa.Eng
