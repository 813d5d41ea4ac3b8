/- What a text's twin predicate says, the text does; no condition. -/
import Derived.Test.YtjlgeoaomegbmaaEng15
namespace Go.Proofs.Ytjlgeoaomegbmaa.Eng
open Go Go.RowKit
set_option autoImplicit false
set_option linter.unusedSimpArgs false
set_option linter.unusedVariables false

variable {P : Program} {n : Nat} {w0 : World} {M : Nat → Prop}

theorem vcE_sound {F : TT} (hF : TTok P F) (l : List (ESpec P)) (hm : P.follows .mixedOrders = true) (tabs : Tabs) : ∀ (c : Code), tabsOk tabs c = true → ∀ (Q : QT) (env : Env) (H : Heap), vcE kid P F (lookT l) (lookE l) n tabs c Q env H → Does P n c Q env H
  | .skip, _, Q, env, H, h => fun w0 M a w hE hH => wp_skip ⟨env, H, h, hE, hH⟩
  | .region id ops draw, ht, Q, env, H, h => fun w0 M a w hE hH => by
    simp only [tabsOk] at ht
    cases draw with
    | true =>
      rw [if_pos rfl] at ht
      simp only [vcE] at h
      exact regionD_sound (ctxOf F hF (baseOf l)) hm (tabOf tabs id) ht hE hH (vcDE_eq F hF l n ops _ _ _ _ _ _ h) fun env' H' a' w' hQ hE' hH' => ⟨env', H', hQ, hE', hH'⟩
    | false =>
      simp only [vcE] at h
      exact region_sound (ctxOf F hF (baseOf l)) hE hH (vcOpsE_eq F hF l n ops _ _ _ _ h) fun env' H' a' w' hQ hE' hH' => ⟨env', H', hQ, hE', hH'⟩
  | .seq x y, ht, Q, env, H, h => fun w0 M a w hE hH => by
    simp only [tabsOk, Bool.and_eq_true] at ht
    refine wp_seq (wp_mono (vcE_sound hF l hm tabs x ht.1 _ env H h w0 M a w hE hH) ?_)
    intro e a' w' hq
    cases e with
    | normal =>
      obtain ⟨env', H', hv, hE', hH'⟩ := hq
      exact vcE_sound hF l hm tabs y ht.2 Q env' H' hv w0 M a' w' hE' hH'
    | ret => exact hq
    | exit id => exact hq
    | _ => exact hq
  | .cond c t e, ht, Q, env, H, h => fun w0 M a w hE hH => by
    simp only [tabsOk, Bool.and_eq_true] at ht
    simp only [vcE] at h
    split at h
    · rename_i b hc
      refine wp_cond_split (eval_v hE hc) (fun hb => ?_) (fun hb => ?_)
      · subst hb
        exact vcE_sound hF l hm tabs t ht.1 Q env H h w0 M a w hE hH
      · subst hb
        exact vcE_sound hF l hm tabs e ht.2 Q env H h w0 M a w hE hH
    · exact h.elim
  | .block id c, ht, Q, env, H, h => fun w0 M a w hE hH => by
    refine wp_block (wp_mono (vcE_sound hF l hm tabs c ht _ env H h w0 M a w hE hH) ?_)
    intro e a' w' hq
    cases e with
    | exit id' =>
      obtain ⟨env', H', hv, hE', hH'⟩ := hq
      simp only [inBlk] at hv
      simp only [Exit.inBlock]
      split
      · rename_i hid
        rw [if_pos hid] at hv
        exact ⟨env', H', hv, hE', hH'⟩
      · rename_i hid
        rw [if_neg hid] at hv
        exact ⟨env', H', hv, hE', hH'⟩
    | normal => exact hq
    | ret => exact hq
    | _ => exact hq
  | .loop c, ht, Q, env, H, h => by
    simp only [vcE] at h
    exact h.h ht
  | .rangeFunc f ps as b, ht, Q, env, H, h => by
    simp only [vcE] at h
    exact h.h ht
  | .exit id, _, Q, env, H, h => fun w0 M a w hE hH => wp_exit ⟨env, H, h, hE, hH⟩
  | .ret, _, Q, env, H, h => fun w0 M a w hE hH => wp_ret ⟨env, H, h, hE, hH⟩
  | .scope _, _, _, _, _, h => h.elim
  | .label _, _, _, _, _, h => h.elim
  | .goto _, _, _, _, _, h => h.elim
  | .refuse _, _, _, _, _, h => h.elim

/-- A loop: at its head one of the states of S; each round leads on to another one that is less, or out. -/
theorem loop_ruleD {tabs : Tabs} {body : Code} {Q : QT} {env : Env} {H : Heap} {σ : Type} (L : σ → List (Nat × SV)) (E : σ → List (Nat × Ent)) (μ : σ → Nat) (s0 : σ) (ρ0 : List Nat)
    (h0 : FitsE env (L s0)) (hn : ρ0.Nodup) (h1 : FitsH H ρ0 (E s0))
    (round : ∀ s, tabsOk tabs body = true → Does P n body (thenV Q fun env' H' => ∃ s' ρ, μ s' < μ s ∧ ρ.Nodup ∧ FitsE env' (L s') ∧ FitsH H' ρ (E s')) (envOf (L s)) (heapOf (E s))) : LoopAt P n tabs body Q env H := by
  rw [LoopAt_def]
  intro ht w0 M a w hE hH
  intro b k cs
  have key : ∀ m s, μ s = m → ∀ a w, EnvOk n (envOf (L s)) a → HSat w0 M (heapOf (E s)) w → ∃ e a' w', lift n w0 M Q e a' w' ∧ Arrives P (lone (b.at a (.code body :: .inLoop body :: k)) cs w) b k cs e a' w' := by
    intro m
    induction m using Nat.strongRecOn with
    | _ m ih =>
      intro s hs a w hE hH
      obtain ⟨e, a1, w1, hq, harr⟩ := round s ht w0 M a w hE hH b (.inLoop body :: k) cs
      cases e with
      | normal =>
        obtain ⟨env', H', ⟨s', ρ, hlt, hnd, hf1, hf2⟩, hE', hH'⟩ := hq
        obtain ⟨e2, a2, w2, hq2, harr2⟩ := ih (μ s') (hs ▸ hlt) s' rfl a1 w1 (hE'.fits hf1) (hH'.fits hnd hf2)
        exact ⟨e2, a2, w2, hq2, .of_steps (Steps.trans harr (.one step_inLoop)) harr2⟩
      | ret => exact ⟨.ret, a1, w1, hq, .pass (x := .inLoop body) rfl (fun _ _ => .inl (by simp)) harr⟩
      | exit id => exact ⟨.exit id, a1, w1, hq, .pass (x := .inLoop body) rfl (fun _ _ => .inl (by simp)) harr⟩
      | goto l => exact hq.elim
      | panic c => exact hq.elim
      | outgrown => exact hq.elim
  obtain ⟨e, a', w', hq, harr⟩ := key _ s0 rfl a w (hE.fits h0) (hH.fits hn h1)
  exact ⟨e, a', w', hq, .of_steps (.one step_loop) harr⟩

/-- A function's contract out of its text. -/
theorem calls_of_does {f : FuncId} {fn : Func} {c : Code} (hf : P.funcs[f]? = some fn) (hb : fn.body = some c) (vs : Array Value) (L : List (Nat × SV)) (H : Heap) (w : World)
    (hn : fn.ntmps = n) (rs : List ResultVar) (hrs : fn.results.toList = rs) (hvs : vs.size ≤ n) (hL : ∀ p ∈ L, vs[p.1]? = some p.2.den) (hH : HSat w M H w) (R : SV → Heap → Prop) (h : Does P n c (retQ P rs R) (envOf L) H) :
    Calls P f vs w fun e w' => ∃ v H', e = .returned v.den ∧ R v H' ∧ HSat w M H' w' := by
  subst hn hrs
  refine calls_of_wp hf hb (wp_mono (h w M _ w ⟨by simp; omega, fun t htk => ?_, rfl⟩ hH) ?_)
  · obtain ⟨v, hv, e⟩ := envOf_some L t htk
    have := hL _ hv
    rw [e]
    have hlt : t < vs.size := (Array.getElem?_eq_some_iff.1 this).1
    rw [Array.getElem?_append_left hlt]
    exact this
  · intro e a' w' hq
    cases e with
    | normal =>
      obtain ⟨env', H', hr, hE', hH'⟩ := hq
      obtain ⟨v, hR, hrun⟩ := results_sound hE' hH' R hr
      exact ⟨hE'.defers, v.den, hrun, v, H', rfl, hR, hH'⟩
    | ret =>
      obtain ⟨env', H', hr, hE', hH'⟩ := hq
      obtain ⟨v, hR, hrun⟩ := results_sound hE' hH' R hr
      exact ⟨hE'.defers, v.den, hrun, v, H', rfl, hR, hH'⟩
    | exit id =>
      obtain ⟨env', H', hr, _, _⟩ := hq
      exact hr.elim
    | goto l => exact hq.elim
    | panic ch => exact hq.elim
    | outgrown => exact hq.elim


/-- What comes at a loop's end of a round: again at the head, and less. -/
structure Again {σ : Type} (L : σ → List (Nat × SV)) (E : σ → List (Nat × Ent)) (μ : σ → Nat) (s : σ) (env : Env) (H : Heap) : Prop where
  h : ∃ s' ρ, μ s' < μ s ∧ ρ.Nodup ∧ FitsE env (L s') ∧ FitsH H ρ (E s')

theorem loopE {F : TT} (hF : TTok P F) (l : List (ESpec P)) (hm : P.follows .mixedOrders = true) {tabs : Tabs} {body : Code} {Q : QT} {env : Env} {H : Heap} {σ : Type} (L : σ → List (Nat × SV)) (E : σ → List (Nat × Ent)) (μ : σ → Nat) (s0 : σ) (ρ0 : List Nat)
    (h0 : FitsE env (L s0)) (hn : ρ0.Nodup) (h1 : FitsH H ρ0 (E s0)) {κ : Kp} (hκ : κ = kid)
    (round : ∀ s, vcE κ P F (lookT l) (lookE l) n tabs body (thenV Q (Again L E μ s)) (envOf (L s)) (heapOf (E s))) : LoopAt P n tabs body Q env H := by
  subst hκ
  refine loop_ruleD L E μ s0 ρ0 h0 hn h1 fun s ht => ?_
  have e : (fun env' H' => ∃ s' ρ, μ s' < μ s ∧ ρ.Nodup ∧ FitsE env' (L s') ∧ FitsH H' ρ (E s')) = Again L E μ s := by
    funext env' H'
    exact propext ⟨fun h => ⟨h⟩, fun h => h.h⟩
  rw [e]
  exact vcE_sound hF l hm tabs body ht _ _ _ (round s)

/-- What a function hands back, by the table. -/
def resTE (F : TT) : List ResultVar → Env → Heap → (List SV → Prop) → Prop
  | [], env, H, K => K []
  | .tmp t :: r, env, H, K => match env t with
    | .tup _ => False
    | .c .any => False
    | x => resTE F r env H fun l => K (x :: l)
  | .cell t ty :: r, env, H, K => match env t with
    | .c (.loc id b off) => match H id with
      | some (.blk b' _ cs) => b = b' ∧ match look F.sz ty with
        | some (true, m) => off + m ≤ cs.length ∧ resTE F r env H fun l => K (.agg ((cs.drop off).take m) :: l)
        | some (false, _) => match cs[off]? with
          | some x => resTE F r env H fun l => K (.c x :: l)
          | none => False
        | none => False
      | _ => False
    | _ => False
theorem resTE_sound {F : TT} (hF : TTok P F) (env : Env) (H : Heap) : ∀ (rs : List ResultVar) (K : List SV → Prop), resTE F rs env H K → resT P rs env H K
  | [], K, h => h
  | .tmp t :: r, K, h => by
    simp only [resTE] at h
    simp only [resT]
    split at h
    · exact h.elim
    · exact h.elim
    · rename_i h1 h2
      split
      · rename_i l he; exact h1 l he
      · rename_i he; exact h2 he
      · exact resTE_sound hF env H r _ h
  | .cell t ty :: r, K, h => by
    simp only [resTE] at h
    simp only [resT]
    split at h
    · rename_i id b off he
      split at h
      · rename_i b' t' cs hH
        obtain ⟨h1, h⟩ := h
        simp only [he, hH]
        refine ⟨h1, ?_⟩
        split at h
        · rename_i m hm
          simp only [hF.sz_ hm]
          exact ⟨h.1, resTE_sound hF env H r _ h.2⟩
        · rename_i m hm
          simp only [hF.sz_ hm]
          split at h
          · rename_i x hx
            exact ⟨x, hx, resTE_sound hF env H r _ h⟩
          · exact h.elim
        · exact h.elim
      · exact h.elim
    · exact h.elim
def retQE (F : TT) (rs : List ResultVar) (R : SV → Heap → Prop) : QT
  | .exit _, _, _ => False
  | _, env, H => resTE F rs env H fun l => R (single l) H
theorem retQE_sound {F : TT} (hF : TTok P F) (rs : List ResultVar) (R : SV → Heap → Prop) (x : VX) (env : Env) (H : Heap) (h : retQE F rs R x env H) : retQ P rs R x env H := by
  cases x with
  | normal => exact resTE_sound hF env H rs _ h
  | ret => exact resTE_sound hF env H rs _ h
  | exit id => exact h.elim
theorem Does.mono {c : Code} {Q Q' : QT} {env : Env} {H : Heap} (h : Does P n c Q env H) (hQ : ∀ x env H, Q x env H → Q' x env H) : Does P n c Q' env H := fun w0 M a w hE hH => by
  refine wp_mono (h w0 M a w hE hH) ?_
  intro e a' w' hq
  cases e with
  | normal => obtain ⟨env', H', hv, h1, h2⟩ := hq; exact ⟨env', H', hQ _ _ _ hv, h1, h2⟩
  | ret => obtain ⟨env', H', hv, h1, h2⟩ := hq; exact ⟨env', H', hQ _ _ _ hv, h1, h2⟩
  | exit id => obtain ⟨env', H', hv, h1, h2⟩ := hq; exact ⟨env', H', hQ _ _ _ hv, h1, h2⟩
  | _ => exact hq

theorem callsE {F : TT} (hF : TTok P F) (l : List (ESpec P)) (hm : P.follows .mixedOrders = true) {f : FuncId} {fn : Func} {c : Code} (tabs : Tabs) (hf : P.funcs[f]? = some fn) (hb : fn.body = some c) (ht : tabsQ tabs c = true) (vs : Array Value) (L : List (Nat × SV)) (H : Heap) (w : World)
    (hn : fn.ntmps = n) (rs : List ResultVar) (hrs : fn.results.toList = rs) (hvs : vs.size ≤ n) (hL : ∀ p ∈ L, vs[p.1]? = some p.2.den) (hH : HSat w M H w) (R : SV → Heap → Prop) {κ : Kp} (hκ : κ = kid) (h : vcE κ P F (lookT l) (lookE l) n tabs c (retQE F rs R) (envOf L) H) :
    Calls P f vs w fun e w' => ∃ v H', e = .returned v.den ∧ R v H' ∧ HSat w M H' w' := by
  subst hκ
  exact calls_of_does hf hb vs L H w hn rs hrs hvs hL hH R ((vcE_sound hF l hm tabs c (tabsQ_ok tabs c ht) _ _ _ h).mono fun x env H h => retQE_sound hF rs R x env H h)

theorem tst_mk {b : Bool} {p q : Prop} : (b = true → p) → (b = false → q) → (match b with | true => p | false => q) := by
  intro h1 h2
  cases b
  · exact h2 rfl
  · exact h1 rfl

/-- What a pure function comes to. -/
structure Is (r : Value) (v : SV) : Prop where
  h : v.den = r

theorem pureE {F : TT} (hF : TTok P F) (l : List (ESpec P)) (hm : P.follows .mixedOrders = true) {f : FuncId} {fn : Func} {c : Code} (tabs : Tabs) (hf : P.funcs[f]? = some fn) (hb : fn.body = some c) (ht : tabsQ tabs c = true) (vs : Array Value) (L : List (Nat × SV)) (r : Value) (w : World) (n : Nat)
    (hn : fn.ntmps = n) (rs : List ResultVar) (hrs : fn.results.toList = rs) (hvs : vs.size ≤ n) (hL : ∀ p ∈ L, vs[p.1]? = some p.2.den) {κ : Kp} (hκ : κ = kid) (h : vcE κ P F (lookT l) (lookE l) n tabs c (retQE F rs fun v _ => Is (κ _ r) v) (envOf L) H0) :
    Calls P f vs w fun e w' => e = .returned r ∧ Below w.heap.size w w' :=
  (callsE hF l hm tabs hf hb ht vs L H0 w hn rs hrs hvs hL (HSat.start w) _ hκ h).mono fun e w' ⟨v, H', he, hr, hH⟩ => ⟨by subst hκ; rw [he, hr.h]; rfl, hH.isBelow⟩

/-- A pure contract, for the reckoning. -/
def pureES {f : FuncId} (hB : Bodied P f) (F : Kp → List SV → Heap → Option (Prop × SV)) {κ : Kp} (hκ : κ = kid)
    (h : ∀ args H s v (w0 : World) M (w : World) (H' : Heap), F kid args H = some (s, v) → s → (∀ i e, H i = some e → H' i = some e) → HSat w0 M H' w → Calls P f (args.map SV.den).toArray w fun e w' => e = .returned v.den ∧ Below w.heap.size w w') : ESpec P where
  f := f
  wr := false
  S := pureSpec (F kid)
  ok := pure_ok hB (F kid) h
  T := fun args H _ K => match F κ args H with
    | some (s, v) => Side s ∧ K v []
    | none => False
  hT := by
    subst hκ
    intro args H d K
    unfold pureSpec
    cases F kid args H with
    | none => simp
    | some p => obtain ⟨s, v⟩ := p; simp [Side_eq]

end Go.Proofs.Ytjlgeoaomegbmaa.Eng
