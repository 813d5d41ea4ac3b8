/- Texts of this work, laid together: symbolic execution over the model, contracts of the program's functions, what they come to; conditions: as each says. -/
import Derived.Test.YtbcicjmepojlnaaPkBaseAE
/- What a text's twin predicate says, the text does; no condition. -/
namespace Go.Proofs.Ytbcicjmepojlnaa.Eng
open Go Go.RowKit
set_option autoImplicit false
set_option linter.unusedSimpArgs false
set_option linter.unusedVariables false

variable {P : Program} {n : Nat} {w0 : World} {M : Nat → Prop}

theorem vcE_sound {F : TT} (hF : TTok P F) (l : List (ESpec P)) (hm : P.follows .mixedOrders = true) (tabs : Tabs) : ∀ (c : Code), tabsOk tabs c = true → ∀ (Q : QT) (env : Env) (H : Heap), vcE kid P F (lookT l) (lookE l) n tabs c Q env H → Does P n c Q env H
  | .skip, _, Q, env, H, h => fun w0 M a w hE hH => wp_skip ⟨env, H, h, hE, hH⟩
  | .region id ops draw, ht, Q, env, H, h => fun w0 M a w hE hH => by
    simp only [tabsOk] at ht
    cases draw with
    | true =>
      rw [if_pos rfl] at ht
      simp only [vcE] at h
      exact regionD_sound (ctxOf F hF (baseOf l)) hm (tabOf tabs id) ht hE hH (vcDE_eq F hF l n ops _ _ _ _ _ _ h) fun env' H' a' w' hQ hE' hH' => ⟨env', H', hQ, hE', hH'⟩
    | false =>
      simp only [vcE] at h
      exact region_sound (ctxOf F hF (baseOf l)) hE hH (vcOpsE_eq F hF l n ops _ _ _ _ h) fun env' H' a' w' hQ hE' hH' => ⟨env', H', hQ, hE', hH'⟩
  | .seq x y, ht, Q, env, H, h => fun w0 M a w hE hH => by
    simp only [tabsOk, Bool.and_eq_true] at ht
    refine wp_seq (wp_mono (vcE_sound hF l hm tabs x ht.1 _ env H h w0 M a w hE hH) ?_)
    intro e a' w' hq
    cases e with
    | normal =>
      obtain ⟨env', H', hv, hE', hH'⟩ := hq
      exact vcE_sound hF l hm tabs y ht.2 Q env' H' hv w0 M a' w' hE' hH'
    | ret => exact hq
    | exit id => exact hq
    | _ => exact hq
  | .cond c t e, ht, Q, env, H, h => fun w0 M a w hE hH => by
    simp only [tabsOk, Bool.and_eq_true] at ht
    simp only [vcE] at h
    split at h
    · rename_i b hc
      refine wp_cond_split (eval_v hE hc) (fun hb => ?_) (fun hb => ?_)
      · subst hb
        exact vcE_sound hF l hm tabs t ht.1 Q env H h w0 M a w hE hH
      · subst hb
        exact vcE_sound hF l hm tabs e ht.2 Q env H h w0 M a w hE hH
    · exact h.elim
  | .block id c, ht, Q, env, H, h => fun w0 M a w hE hH => by
    refine wp_block (wp_mono (vcE_sound hF l hm tabs c ht _ env H h w0 M a w hE hH) ?_)
    intro e a' w' hq
    cases e with
    | exit id' =>
      obtain ⟨env', H', hv, hE', hH'⟩ := hq
      simp only [inBlk] at hv
      simp only [Exit.inBlock]
      split
      · rename_i hid
        rw [if_pos hid] at hv
        exact ⟨env', H', hv, hE', hH'⟩
      · rename_i hid
        rw [if_neg hid] at hv
        exact ⟨env', H', hv, hE', hH'⟩
    | normal => exact hq
    | ret => exact hq
    | _ => exact hq
  | .loop c, ht, Q, env, H, h => by
    simp only [vcE] at h
    exact h.h ht
  | .rangeFunc f ps as b, ht, Q, env, H, h => by
    simp only [vcE] at h
    exact h.h ht
  | .exit id, _, Q, env, H, h => fun w0 M a w hE hH => wp_exit ⟨env, H, h, hE, hH⟩
  | .ret, _, Q, env, H, h => fun w0 M a w hE hH => wp_ret ⟨env, H, h, hE, hH⟩
  | .scope _, _, _, _, _, h => h.elim
  | .label _, _, _, _, _, h => h.elim
  | .goto _, _, _, _, _, h => h.elim
  | .refuse _, _, _, _, _, h => h.elim

/-- A loop: at its head one of the states of S; each round leads on to another one that is less, or out. -/
theorem loop_ruleD {tabs : Tabs} {body : Code} {Q : QT} {env : Env} {H : Heap} {σ : Type} (L : σ → List (Nat × SV)) (E : σ → List (Nat × Ent)) (μ : σ → Nat) (s0 : σ) (ρ0 : List Nat)
    (h0 : FitsE env (L s0)) (hn : ρ0.Nodup) (h1 : FitsH H ρ0 (E s0))
    (round : ∀ s, tabsOk tabs body = true → Does P n body (thenV Q fun env' H' => ∃ s' ρ, μ s' < μ s ∧ ρ.Nodup ∧ FitsE env' (L s') ∧ FitsH H' ρ (E s')) (envOf (L s)) (heapOf (E s))) : LoopAt P n tabs body Q env H := by
  rw [LoopAt_def]
  intro ht w0 M a w hE hH
  intro b k cs
  have key : ∀ m s, μ s = m → ∀ a w, EnvOk n (envOf (L s)) a → HSat w0 M (heapOf (E s)) w → ∃ e a' w', lift n w0 M Q e a' w' ∧ Arrives P (lone (b.at a (.code body :: .inLoop body :: k)) cs w) b k cs e a' w' := by
    intro m
    induction m using Nat.strongRecOn with
    | _ m ih =>
      intro s hs a w hE hH
      obtain ⟨e, a1, w1, hq, harr⟩ := round s ht w0 M a w hE hH b (.inLoop body :: k) cs
      cases e with
      | normal =>
        obtain ⟨env', H', ⟨s', ρ, hlt, hnd, hf1, hf2⟩, hE', hH'⟩ := hq
        obtain ⟨e2, a2, w2, hq2, harr2⟩ := ih (μ s') (hs ▸ hlt) s' rfl a1 w1 (hE'.fits hf1) (hH'.fits hnd hf2)
        exact ⟨e2, a2, w2, hq2, .of_steps (Steps.trans harr (.one step_inLoop)) harr2⟩
      | ret => exact ⟨.ret, a1, w1, hq, .pass (x := .inLoop body) rfl (fun _ _ => .inl (by simp)) harr⟩
      | exit id => exact ⟨.exit id, a1, w1, hq, .pass (x := .inLoop body) rfl (fun _ _ => .inl (by simp)) harr⟩
      | goto l => exact hq.elim
      | panic c => exact hq.elim
      | outgrown => exact hq.elim
  obtain ⟨e, a', w', hq, harr⟩ := key _ s0 rfl a w (hE.fits h0) (hH.fits hn h1)
  exact ⟨e, a', w', hq, .of_steps (.one step_loop) harr⟩

/-- A function's contract out of its text. -/
theorem calls_of_does {f : FuncId} {fn : Func} {c : Code} (hf : P.funcs[f]? = some fn) (hb : fn.body = some c) (vs : Array Value) (L : List (Nat × SV)) (H : Heap) (w : World)
    (hn : fn.ntmps = n) (rs : List ResultVar) (hrs : fn.results.toList = rs) (hvs : vs.size ≤ n) (hL : ∀ p ∈ L, vs[p.1]? = some p.2.den) (hH : HSat w M H w) (R : SV → Heap → Prop) (h : Does P n c (retQ P rs R) (envOf L) H) :
    Calls P f vs w fun e w' => ∃ v H', e = .returned v.den ∧ R v H' ∧ HSat w M H' w' := by
  subst hn hrs
  refine calls_of_wp hf hb (wp_mono (h w M _ w ⟨by simp; omega, fun t htk => ?_, rfl⟩ hH) ?_)
  · obtain ⟨v, hv, e⟩ := envOf_some L t htk
    have := hL _ hv
    rw [e]
    have hlt : t < vs.size := (Array.getElem?_eq_some_iff.1 this).1
    rw [Array.getElem?_append_left hlt]
    exact this
  · intro e a' w' hq
    cases e with
    | normal =>
      obtain ⟨env', H', hr, hE', hH'⟩ := hq
      obtain ⟨v, hR, hrun⟩ := results_sound hE' hH' R hr
      exact ⟨hE'.defers, v.den, hrun, v, H', rfl, hR, hH'⟩
    | ret =>
      obtain ⟨env', H', hr, hE', hH'⟩ := hq
      obtain ⟨v, hR, hrun⟩ := results_sound hE' hH' R hr
      exact ⟨hE'.defers, v.den, hrun, v, H', rfl, hR, hH'⟩
    | exit id =>
      obtain ⟨env', H', hr, _, _⟩ := hq
      exact hr.elim
    | goto l => exact hq.elim
    | panic ch => exact hq.elim
    | outgrown => exact hq.elim


/-- What comes at a loop's end of a round: again at the head, and less. -/
structure Again {σ : Type} (L : σ → List (Nat × SV)) (E : σ → List (Nat × Ent)) (μ : σ → Nat) (s : σ) (env : Env) (H : Heap) : Prop where
  h : ∃ s' ρ, μ s' < μ s ∧ ρ.Nodup ∧ FitsE env (L s') ∧ FitsH H ρ (E s')

theorem loopE {F : TT} (hF : TTok P F) (l : List (ESpec P)) (hm : P.follows .mixedOrders = true) {tabs : Tabs} {body : Code} {Q : QT} {env : Env} {H : Heap} {σ : Type} (L : σ → List (Nat × SV)) (E : σ → List (Nat × Ent)) (μ : σ → Nat) (s0 : σ) (ρ0 : List Nat)
    (h0 : FitsE env (L s0)) (hn : ρ0.Nodup) (h1 : FitsH H ρ0 (E s0)) {κ : Kp} (hκ : κ = kid)
    (round : ∀ s, vcE κ P F (lookT l) (lookE l) n tabs body (thenV Q (Again L E μ s)) (envOf (L s)) (heapOf (E s))) : LoopAt P n tabs body Q env H := by
  subst hκ
  refine loop_ruleD L E μ s0 ρ0 h0 hn h1 fun s ht => ?_
  have e : (fun env' H' => ∃ s' ρ, μ s' < μ s ∧ ρ.Nodup ∧ FitsE env' (L s') ∧ FitsH H' ρ (E s')) = Again L E μ s := by
    funext env' H'
    exact propext ⟨fun h => ⟨h⟩, fun h => h.h⟩
  rw [e]
  exact vcE_sound hF l hm tabs body ht _ _ _ (round s)

/-- What a function hands back, by the table. -/
def resTE (F : TT) : List ResultVar → Env → Heap → (List SV → Prop) → Prop
  | [], env, H, K => K []
  | .tmp t :: r, env, H, K => match env t with
    | .tup _ => False
    | .c .any => False
    | x => resTE F r env H fun l => K (x :: l)
  | .cell t ty :: r, env, H, K => match env t with
    | .c (.loc id b off) => match H id with
      | some (.blk b' _ cs) => b = b' ∧ match look F.sz ty with
        | some (true, m) => off + m ≤ cs.length ∧ resTE F r env H fun l => K (.agg ((cs.drop off).take m) :: l)
        | some (false, _) => match cs[off]? with
          | some x => resTE F r env H fun l => K (.c x :: l)
          | none => False
        | none => False
      | _ => False
    | _ => False
theorem resTE_sound {F : TT} (hF : TTok P F) (env : Env) (H : Heap) : ∀ (rs : List ResultVar) (K : List SV → Prop), resTE F rs env H K → resT P rs env H K
  | [], K, h => h
  | .tmp t :: r, K, h => by
    simp only [resTE] at h
    simp only [resT]
    split at h
    · exact h.elim
    · exact h.elim
    · rename_i h1 h2
      split
      · rename_i l he; exact h1 l he
      · rename_i he; exact h2 he
      · exact resTE_sound hF env H r _ h
  | .cell t ty :: r, K, h => by
    simp only [resTE] at h
    simp only [resT]
    split at h
    · rename_i id b off he
      split at h
      · rename_i b' t' cs hH
        obtain ⟨h1, h⟩ := h
        simp only [he, hH]
        refine ⟨h1, ?_⟩
        split at h
        · rename_i m hm
          simp only [hF.sz_ hm]
          exact ⟨h.1, resTE_sound hF env H r _ h.2⟩
        · rename_i m hm
          simp only [hF.sz_ hm]
          split at h
          · rename_i x hx
            exact ⟨x, hx, resTE_sound hF env H r _ h⟩
          · exact h.elim
        · exact h.elim
      · exact h.elim
    · exact h.elim
def retQE (F : TT) (rs : List ResultVar) (R : SV → Heap → Prop) : QT
  | .exit _, _, _ => False
  | _, env, H => resTE F rs env H fun l => R (single l) H
theorem retQE_sound {F : TT} (hF : TTok P F) (rs : List ResultVar) (R : SV → Heap → Prop) (x : VX) (env : Env) (H : Heap) (h : retQE F rs R x env H) : retQ P rs R x env H := by
  cases x with
  | normal => exact resTE_sound hF env H rs _ h
  | ret => exact resTE_sound hF env H rs _ h
  | exit id => exact h.elim
theorem Does.mono {c : Code} {Q Q' : QT} {env : Env} {H : Heap} (h : Does P n c Q env H) (hQ : ∀ x env H, Q x env H → Q' x env H) : Does P n c Q' env H := fun w0 M a w hE hH => by
  refine wp_mono (h w0 M a w hE hH) ?_
  intro e a' w' hq
  cases e with
  | normal => obtain ⟨env', H', hv, h1, h2⟩ := hq; exact ⟨env', H', hQ _ _ _ hv, h1, h2⟩
  | ret => obtain ⟨env', H', hv, h1, h2⟩ := hq; exact ⟨env', H', hQ _ _ _ hv, h1, h2⟩
  | exit id => obtain ⟨env', H', hv, h1, h2⟩ := hq; exact ⟨env', H', hQ _ _ _ hv, h1, h2⟩
  | _ => exact hq

theorem callsE {F : TT} (hF : TTok P F) (l : List (ESpec P)) (hm : P.follows .mixedOrders = true) {f : FuncId} {fn : Func} {c : Code} (tabs : Tabs) (hf : P.funcs[f]? = some fn) (hb : fn.body = some c) (ht : tabsQ tabs c = true) (vs : Array Value) (L : List (Nat × SV)) (H : Heap) (w : World)
    (hn : fn.ntmps = n) (rs : List ResultVar) (hrs : fn.results.toList = rs) (hvs : vs.size ≤ n) (hL : ∀ p ∈ L, vs[p.1]? = some p.2.den) (hH : HSat w M H w) (R : SV → Heap → Prop) {κ : Kp} (hκ : κ = kid) (h : vcE κ P F (lookT l) (lookE l) n tabs c (retQE F rs R) (envOf L) H) :
    Calls P f vs w fun e w' => ∃ v H', e = .returned v.den ∧ R v H' ∧ HSat w M H' w' := by
  subst hκ
  exact calls_of_does hf hb vs L H w hn rs hrs hvs hL hH R ((vcE_sound hF l hm tabs c (tabsQ_ok tabs c ht) _ _ _ h).mono fun x env H h => retQE_sound hF rs R x env H h)

theorem tst_mk {b : Bool} {p q : Prop} : (b = true → p) → (b = false → q) → (match b with | true => p | false => q) := by
  intro h1 h2
  cases b
  · exact h2 rfl
  · exact h1 rfl

/-- What a pure function comes to. -/
structure Is (r : Value) (v : SV) : Prop where
  h : v.den = r

theorem pureE {F : TT} (hF : TTok P F) (l : List (ESpec P)) (hm : P.follows .mixedOrders = true) {f : FuncId} {fn : Func} {c : Code} (tabs : Tabs) (hf : P.funcs[f]? = some fn) (hb : fn.body = some c) (ht : tabsQ tabs c = true) (vs : Array Value) (L : List (Nat × SV)) (r : Value) (w : World) (n : Nat)
    (hn : fn.ntmps = n) (rs : List ResultVar) (hrs : fn.results.toList = rs) (hvs : vs.size ≤ n) (hL : ∀ p ∈ L, vs[p.1]? = some p.2.den) {κ : Kp} (hκ : κ = kid) (h : vcE κ P F (lookT l) (lookE l) n tabs c (retQE F rs fun v _ => Is (κ _ r) v) (envOf L) H0) :
    Calls P f vs w fun e w' => e = .returned r ∧ Below w.heap.size w w' :=
  (callsE hF l hm tabs hf hb ht vs L H0 w hn rs hrs hvs hL (HSat.start w) _ hκ h).mono fun e w' ⟨v, H', he, hr, hH⟩ => ⟨by subst hκ; rw [he, hr.h]; rfl, hH.isBelow⟩

/-- A pure contract, for the reckoning. -/
def pureES {f : FuncId} (hB : Bodied P f) (F : Kp → List SV → Heap → Option (Prop × SV)) {κ : Kp} (hκ : κ = kid)
    (h : ∀ args H s v (w0 : World) M (w : World) (H' : Heap), F kid args H = some (s, v) → s → (∀ i e, H i = some e → H' i = some e) → HSat w0 M H' w → Calls P f (args.map SV.den).toArray w fun e w' => e = .returned v.den ∧ Below w.heap.size w w') : ESpec P where
  f := f
  wr := false
  S := pureSpec (F kid)
  ok := pure_ok hB (F kid) h
  T := fun args H _ K => match F κ args H with
    | some (s, v) => Side s ∧ K v []
    | none => False
  hT := by
    subst hκ
    intro args H d K
    unfold pureSpec
    cases F kid args H with
    | none => simp
    | some p => obtain ⟨s, v⟩ := p; simp [Side_eq]

end Go.Proofs.Ytbcicjmepojlnaa.Eng
/- Loops whose fixed slots and things are taken over as they lie; a loop's round laid open; no condition. -/
namespace Go.Proofs.Ytbcicjmepojlnaa.Eng
open Go Go.RowKit
set_option autoImplicit false
set_option linter.unusedSimpArgs false
set_option linter.unusedVariables false

variable {P : Program} {n : Nat} {w0 : World} {M : Nat → Prop}

/-- The slots (things) that a loop keeps as they lie. -/
def keepE (env : Env) : List Nat → List (Nat × SV) → List (Nat × SV)
  | [], l => l
  | t :: r, l => (t, env t) :: keepE env r l
def keepH (H : Heap) : List Nat → List (Nat × Ent) → List (Nat × Ent)
  | [], l => l
  | i :: r, l => match H i with
    | some e => (i, e) :: keepH H r l
    | none => keepH H r l

theorem loopK {F : TT} (hF : TTok P F) (l : List (ESpec P)) (hm : P.follows .mixedOrders = true) {tabs : Tabs} {body : Code} {Q : QT} {env : Env} {H : Heap} {σ : Type} (ks hs : List Nat) (L : σ → List (Nat × SV)) (E : σ → List (Nat × Ent)) (μ : σ → Nat) (s0 : σ) (ρ0 : List Nat)
    (h0 : FitsE env (keepE env ks (L s0))) (hn : ρ0.Nodup) (h1 : FitsH H ρ0 (keepH H hs (E s0))) {κ : Kp} (hκ : κ = kid)
    (round : ∀ s, vcE κ P F (lookT l) (lookE l) n tabs body (thenV Q (Again (fun s => keepE env ks (L s)) (fun s => keepH H hs (E s)) μ s)) (envOf (keepE env ks (L s))) (heapOf (keepH H hs (E s)))) : LoopAt P n tabs body Q env H :=
  loopE hF l hm (fun s => keepE env ks (L s)) (fun s => keepH H hs (E s)) μ s0 ρ0 h0 hn h1 hκ round

end Go.Proofs.Ytbcicjmepojlnaa.Eng
/- Calls with what lies behind their arguments; contracts that are told by what is to be shown behind a call; rows of like things; no condition. -/
namespace Go.Proofs.Ytbcicjmepojlnaa.Eng
open Go Go.RowKit
set_option autoImplicit false
set_option linter.unusedSimpArgs false
set_option linter.unusedVariables false

variable {P : Program} {w0 w w' : World} {M : Nat → Prop}

/-! ### One thing as another one -/
structure Ent.gives (e e' : Ent) : Prop where
  holds : ∀ w, e.holds w → e'.holds w
  block : ∀ w, e.holds w → ∀ g, e'.block = some g → e.block = some g
  muts : e'.mut = true → e.mut = true
theorem gives_refl (e : Ent) : e.gives e := ⟨fun _ h => h, fun _ _ _ h => h, fun h => h⟩
theorem gives_blk {b t : Nat} {cs cs' : List C} (h : cs.map C.den = cs'.map C.den) : (Ent.blk b t cs).gives (.blk b t cs') :=
  ⟨fun w hw => by show w.heap[b]? = _; rw [← h]; exact hw, fun _ _ _ hg => hg, fun h => h⟩
theorem gives_row {A : Option Addr} {c t z n : Nat} {xs xs' : List C} (h : xs.map C.den = xs'.map C.den) : (Ent.row A c t z n xs).gives (.row A c t z n xs') :=
  ⟨fun w hw => ⟨by have h1 := congrArg List.length h; simp only [List.length_map] at h1; rw [← h1]; exact hw.1, hw.2.1, fun hc => by
    obtain ⟨g, cur, h1, h2, h3, h4, h5⟩ := hw.2.2 hc
    exact ⟨g, cur, h1, h2, h3, h4, by rw [← h]; exact h5⟩⟩, fun _ _ _ hg => hg, fun h => h⟩
theorem gives_row_rd {A : Option Addr} {c t z n : Nat} {xs : List C} : (Ent.row A c t z n xs).gives (.rd A z n xs) := by
  have pos : ∀ w, (Ent.row A c t z n xs).holds w → xs ≠ [] → 0 < c := by
    intro w hw hx
    have h1 := hw.1
    have h2 := hw.2.1
    have h3 : 0 < xs.length := List.length_pos_iff.2 hx
    rcases Nat.eq_zero_or_pos n with h0 | h0
    · rw [h0] at h1; omega
    · omega
  refine ⟨fun w hw => ⟨hw.1, fun hx => ?_⟩, fun w hw g hg => ?_, fun h => by cases h⟩
  · obtain ⟨g, cur, h1, h2, _⟩ := hw.2.2 (pos w hw hx)
    have hc := cells_row hw hx
    refine ⟨⟨g, 0, none⟩, h1, ?_, ?_⟩
    · exact (Array.getElem?_eq_some_iff.1 h2).1
    · rw [h1] at hc; exact hc
  · simp only [Ent.block] at hg ⊢
    split at hg
    · cases hg
    · rename_i hx
      have := pos w hw hx
      rw [if_neg (by omega)]
      exact hg
theorem gives_rd {A : Option Addr} {z n : Nat} {xs xs' : List C} (h : xs.map C.den = xs'.map C.den) : (Ent.rd A z n xs).gives (.rd A z n xs') := by
  have hl := congrArg List.length h
  simp only [List.length_map] at hl
  refine ⟨fun w hw => ⟨by rw [← hl]; exact hw.1, fun hx => ?_⟩, fun w hw g hg => ?_, fun h => h⟩
  · obtain ⟨a, h1, h2, h3⟩ := hw.2 (by intro e; subst e; exact hx (List.eq_nil_of_length_eq_zero (by simpa using hl.symm)))
    exact ⟨a, h1, h2, fun j u hu => h3 j u (by rw [h]; exact hu)⟩
  · simp only [Ent.block] at hg ⊢
    split at hg
    · cases hg
    · rename_i hx
      rw [if_neg (by intro e; subst e; exact hx (List.eq_nil_of_length_eq_zero (by simpa using hl.symm)))]
      exact hg

/-! ### Into a call and out of it -/
def Gives (H : Heap) : List Nat → List (Nat × Ent) → Prop
  | _, [] => True
  | s :: ρ, (_, e) :: r => (∃ e', H s = some e' ∧ e'.gives e) ∧ Gives H ρ r
  | [], _ :: _ => False
theorem Gives.get {H : Heap} : ∀ {ρ : List Nat} {E : List (Nat × Ent)}, Gives H ρ E → ∀ (k t : Nat) (e : Ent), E[k]? = some (t, e) → ∃ s e', ρ[k]? = some s ∧ H s = some e' ∧ e'.gives e
  | _, [], _, k, t, e, h => by simp at h
  | s :: ρ, (t', e1) :: r, h, 0, t, e, hk => by
    simp at hk
    obtain ⟨_, rfl⟩ := hk
    obtain ⟨e', h1, h2⟩ := h.1
    exact ⟨s, e', rfl, h1, h2⟩
  | s :: ρ, (t', e1) :: r, h, k + 1, t, e, hk => by
    obtain ⟨s', e', h1, h2, h3⟩ := Gives.get h.2 k t e (by simpa using hk)
    exact ⟨s', e', by simpa using h1, h2, h3⟩
/-- The blocks that a call may turn: those of what it is handed to turn. -/
def mutE (E : List (Nat × Ent)) (g : Nat) : Prop := ∃ (k t : Nat) (e : Ent), E[k]? = some (t, e) ∧ e.mut = true ∧ e.block = some g

theorem HSat.enter {H : Heap} {ρ : List Nat} {E : List (Nat × Ent)} (h : HSat w0 M H w) (hρ : ρ.Nodup) (hG : Gives H ρ E) : HSat w (mutE E) (heapOf E) w := by
  have key : ∀ t e, heapOf E t = some e → ∃ (k s : Nat) (e' : Ent), E[k]? = some (t, e) ∧ ρ[k]? = some s ∧ H s = some e' ∧ e'.gives e := by
    intro t e he
    obtain ⟨k, hk⟩ := heapOf_some E t e he
    obtain ⟨s, e', h1, h2, h3⟩ := hG.get k t e hk
    exact ⟨k, s, e', hk, h1, h2, h3⟩
  refine ⟨Fr.refl w _, fun i e hi => ?_, fun i e hi g hg => ?_, fun i e hi hm g hg => ?_, fun i j ei ej hij hi hj hm g hgi hgj => ?_⟩
  · obtain ⟨k, s, e', _, _, hs, hg⟩ := key i e hi
    exact hg.holds w (h.holds s e' hs)
  · obtain ⟨k, s, e', _, _, hs, hv⟩ := key i e hi
    exact h.lt s e' hs g (hv.block w (h.holds s e' hs) g hg)
  · obtain ⟨k, s, e', hk, _, hs, hv⟩ := key i e hi
    exact .inr ⟨k, i, e, hk, hm, hg⟩
  · obtain ⟨k, s, ei', hk, hks, hs, hv⟩ := key i ei hi
    obtain ⟨k', s', ej', hk', hks', hs', hv'⟩ := key j ej hj
    refine h.sep s s' ei' ej' ?_ hs hs' (hv.muts hm) g (hv.block w (h.holds s ei' hs) g hgi) (hv'.block w (h.holds s' ej' hs') g hgj)
    rintro rfl
    have := nodup_get hρ hks hks'
    subst this
    rw [hk] at hk'
    injection hk' with e
    exact hij (by injection e)

/-- T: which thing (of the caller's numbers) is which one of the call's; all others are as they were, or let go. -/
theorem HSat.leave {H Hc : Heap} {ρ : List Nat} {E : List (Nat × Ent)} (h : HSat w0 M H w) (hρ : ρ.Nodup) (hG : Gives H ρ E) (hc : HSat w (mutE E) Hc w') (u : Upd) (T : List (Nat × Nat))
    (c1 : ∀ p ∈ T, ∃ e e', Hc p.2 = some e ∧ upds H u p.1 = some e' ∧ e.gives e' ∧ e.mut = true)
    (c2 : ∀ i, (∀ p ∈ T, p.1 ≠ i) → upds H u i = none ∨ (upds H u i = H i ∧ ∀ (k t : Nat) (e : Ent), E[k]? = some (t, e) → ρ[k]? = some i → e.mut = false))
    (c3 : (T.map (·.2)).Nodup) : HSat w0 M (upds H u) w' := by
  -- what the call may turn is the caller's own
  have mown : ∀ g, mutE E g → ∃ s e', H s = some e' ∧ e'.mut = true ∧ e'.block = some g ∧ ∃ (k t : Nat) (e : Ent), E[k]? = some (t, e) ∧ ρ[k]? = some s ∧ e.mut = true := by
    rintro g ⟨k, t, e, hk, hm, hg⟩
    obtain ⟨s, e', h1, h2, h3⟩ := hG.get k t e hk
    exact ⟨s, e', h2, h3.muts hm, h3.block w (h.holds s e' h2) g hg, k, t, e, hk, h1, hm⟩
  have two : ∀ i e, upds H u i = some e → (∃ k e1, (i, k) ∈ T ∧ Hc k = some e1 ∧ e1.gives e ∧ e1.mut = true) ∨ (H i = some e ∧ ∀ (k t : Nat) (e : Ent), E[k]? = some (t, e) → ρ[k]? = some i → e.mut = false) := by
    intro i e hi
    by_cases hT : ∃ p ∈ T, p.1 = i
    · obtain ⟨p, hp, rfl⟩ := hT
      obtain ⟨e1, e2, h1, h2, h3, h4⟩ := c1 p hp
      rw [hi] at h2
      injection h2 with h2
      subst h2
      exact .inl ⟨p.2, e1, hp, h1, h3, h4⟩
    · rcases c2 i (fun p hp e => hT ⟨p, hp, e⟩) with h0 | ⟨h1, h2⟩
      · rw [h0] at hi; cases hi
      · exact .inr ⟨h1 ▸ hi, h2⟩
  -- a thing of the caller's that the call was not handed to turn is as it was
  have far : ∀ i e, H i = some e → (∀ (k t : Nat) (e : Ent), E[k]? = some (t, e) → ρ[k]? = some i → e.mut = false) → ∀ g, e.block = some g → ¬ mutE E g := by
    intro i e hi hn g hg hm
    obtain ⟨s, e', hs, hm', hb, k, t, ee, hk, hks, hme⟩ := mown g hm
    by_cases his : s = i
    · subst his
      have := hn k t ee hk hks
      rw [hme] at this
      cases this
    · exact h.sep s i e' e his hs hi hm' g hb hg
  have osz : w.heap.size ≤ w'.heap.size := hc.fr.size
  have own1 : ∀ k e1, Hc k = some e1 → e1.mut = true → ∀ g, e1.block = some g → w.heap.size ≤ g ∨ mutE E g := fun k e1 hk hm g hg => hc.own k e1 hk hm g hg
  refine ⟨⟨hc.fr.os.trans h.fr.os, hc.fr.tape.trans h.fr.tape, hc.fr.output.trans h.fr.output, Nat.le_trans h.fr.size osz, fun k hk hM => ?_⟩, fun i e hi => ?_, fun i e hi g hg => ?_, fun i e hi hm g hg => ?_, fun i j ei ej hij hi hj hm g hgi hgj => ?_⟩
  · have hlt := Nat.lt_of_lt_of_le hk h.fr.size
    rw [hc.fr.block k hlt (fun hm => ?_)]
    · exact h.fr.block k hk hM
    · obtain ⟨s, e', hs, hm', hb, _⟩ := mown k hm
      rcases h.own s e' hs hm' k hb with h1 | h1
      · omega
      · exact hM h1
  · rcases two i e hi with ⟨k, e1, _, h1, h2, _⟩ | ⟨h1, h2⟩
    · exact h2.holds w' (hc.holds k e1 h1)
    · exact Ent.holds_keep (h.holds i e h1) osz fun g hg => hc.fr.block g (h.lt i e h1 g hg) (far i e h1 h2 g hg)
  · rcases two i e hi with ⟨k, e1, _, h1, h2, _⟩ | ⟨h1, h2⟩
    · exact hc.lt k e1 h1 g (h2.block w' (hc.holds k e1 h1) g hg)
    · exact Nat.lt_of_lt_of_le (h.lt i e h1 g hg) osz
  · rcases two i e hi with ⟨k, e1, _, h1, h2, h3⟩ | ⟨h1, h2⟩
    · rcases own1 k e1 h1 h3 g (h2.block w' (hc.holds k e1 h1) g hg) with h4 | h4
      · exact .inl (Nat.le_trans h.fr.size h4)
      · obtain ⟨s, e', hs, hm', hb, _⟩ := mown g h4
        exact h.own s e' hs hm' g hb
    · exact h.own i e h1 hm g hg
  · rcases two i ei hi with ⟨k, e1, hT, h1, h2, h3⟩ | ⟨h1, h2⟩
    · have hg1 := h2.block w' (hc.holds k e1 h1) g hgi
      rcases two j ej hj with ⟨k', e1', hT', h1', h2', h3'⟩ | ⟨h1', h2'⟩
      · refine hc.sep k k' e1 e1' ?_ h1 h1' h3 g hg1 (h2'.block w' (hc.holds k' e1' h1') g hgj)
        rintro rfl
        obtain ⟨a, ha⟩ := List.getElem?_of_mem hT
        obtain ⟨b, hb⟩ := List.getElem?_of_mem hT'
        have e1 : (T.map (·.2))[a]? = some k := by rw [List.getElem?_map, ha]; rfl
        have e2 : (T.map (·.2))[b]? = some k := by rw [List.getElem?_map, hb]; rfl
        have := nodup_get c3 e1 e2
        subst this
        rw [ha] at hb
        injection hb with hb
        injection hb with hb
        exact hij hb
      · rcases own1 k e1 h1 h3 g hg1 with h4 | h4
        · exact absurd (h.lt j ej h1' g hgj) (by omega)
        · exact far j ej h1' h2' g hgj h4
    · rcases two j ej hj with ⟨k', e1', hT', h1', h2', h3'⟩ | ⟨h1', h2'⟩
      · have hg1 := h2'.block w' (hc.holds k' e1' h1') g hgj
        rcases own1 k' e1' h1' h3' g hg1 with h4 | h4
        · exact absurd (h.lt i ei h1 g hgi) (by omega)
        · exact far i ei h1 h2 g hgi h4
      · exact h.sep i j ei ej hij h1 h1' hm g hgi hgj

/-! ### Loops whose things are told anew at the head -/
def simE : Ent → Ent → Prop
  | .blk b t cs, .blk b' t' cs' => b = b' ∧ t = t' ∧ cs.map C.den = cs'.map C.den
  | .row A c t z n xs, .row A' c' t' z' n' xs' => A = A' ∧ c = c' ∧ t = t' ∧ z = z' ∧ n = n' ∧ xs = xs'
  | .rd A z n xs, .rd A' z' n' xs' => A = A' ∧ z = z' ∧ n = n' ∧ xs = xs'
  | _, _ => False
def freeE : Ent → Prop
  | .row A c _ _ n xs => A = none ∧ c = 0 ∧ n = 0 ∧ xs = []
  | _ => False
theorem simE_gives {e e' : Ent} (h : simE e e') : e.gives e' := by
  cases e <;> cases e' <;> first | exact h.elim | skip
  · obtain ⟨rfl, rfl, h⟩ := h; exact gives_blk h
  · obtain ⟨rfl, rfl, rfl, rfl, rfl, rfl⟩ := h; exact gives_refl _
  · obtain ⟨rfl, rfl, rfl, rfl⟩ := h; exact gives_refl _
def FitsG (H : Heap) : List Nat → List (Nat × Ent) → Prop
  | _, [] => True
  | s :: ρ, (_, e) :: r => (match H s with | some e' => simE e' e | none => freeE e) ∧ FitsG H ρ r
  | [], _ :: _ => False
theorem FitsG.get {H : Heap} : ∀ {ρ : List Nat} {E : List (Nat × Ent)}, FitsG H ρ E → ∀ (k t : Nat) (e : Ent), E[k]? = some (t, e) → (∃ s e', ρ[k]? = some s ∧ H s = some e' ∧ e'.gives e) ∨ freeE e
  | _, [], _, k, t, e, h => by simp at h
  | s :: ρ, (t', e1) :: r, h, 0, t, e, hk => by
    simp at hk
    obtain ⟨_, rfl⟩ := hk
    have h1 := h.1
    split at h1
    · rename_i e' he
      exact .inl ⟨s, e', rfl, he, simE_gives h1⟩
    · exact .inr h1
  | s :: ρ, (t', e1) :: r, h, k + 1, t, e, hk => by
    rcases FitsG.get h.2 k t e (by simpa using hk) with ⟨s', e', h1, h2, h3⟩ | h1
    · exact .inl ⟨s', e', by simpa using h1, h2, h3⟩
    · exact .inr h1
theorem free_block {e : Ent} (h : freeE e) : e.block = none ∧ ∀ w, e.holds w := by
  cases e with
  | row A c t z n xs =>
    obtain ⟨rfl, rfl, rfl, rfl⟩ := h
    exact ⟨rfl, fun w => ⟨by simp, Nat.le_refl _, fun h => absurd h (Nat.lt_irrefl 0)⟩⟩
  | _ => exact h.elim
theorem HSat.fitsG {H : Heap} {ρ : List Nat} {E : List (Nat × Ent)} (h : HSat w0 M H w) (hρ : ρ.Nodup) (hG : FitsG H ρ E) : HSat w0 M (heapOf E) w := by
  have key : ∀ t e, heapOf E t = some e → (∃ (k s : Nat) (e' : Ent), E[k]? = some (t, e) ∧ ρ[k]? = some s ∧ H s = some e' ∧ e'.gives e) ∨ freeE e := by
    intro t e he
    obtain ⟨k, hk⟩ := heapOf_some E t e he
    rcases hG.get k t e hk with ⟨s, e', h1, h2, h3⟩ | h1
    · exact .inl ⟨k, s, e', hk, h1, h2, h3⟩
    · exact .inr h1
  refine ⟨h.fr, fun i e hi => ?_, fun i e hi g hg => ?_, fun i e hi hm g hg => ?_, fun i j ei ej hij hi hj hm g hgi hgj => ?_⟩
  · rcases key i e hi with ⟨k, s, e', _, _, hs, hv⟩ | hf
    · exact hv.holds w (h.holds s e' hs)
    · exact (free_block hf).2 w
  · rcases key i e hi with ⟨k, s, e', _, _, hs, hv⟩ | hf
    · exact h.lt s e' hs g (hv.block w (h.holds s e' hs) g hg)
    · rw [(free_block hf).1] at hg; cases hg
  · rcases key i e hi with ⟨k, s, e', _, _, hs, hv⟩ | hf
    · exact h.own s e' hs (hv.muts hm) g (hv.block w (h.holds s e' hs) g hg)
    · rw [(free_block hf).1] at hg; cases hg
  · rcases key i ei hi with ⟨k, s, ei', hk, hks, hs, hv⟩ | hf
    · rcases key j ej hj with ⟨k', s', ej', hk', hks', hs', hv'⟩ | hf'
      · refine h.sep s s' ei' ej' ?_ hs hs' (hv.muts hm) g (hv.block w (h.holds s ei' hs) g hgi) (hv'.block w (h.holds s' ej' hs') g hgj)
        rintro rfl
        have := nodup_get hρ hks hks'
        subst this
        rw [hk] at hk'
        injection hk' with e
        exact hij (by injection e)
      · rw [(free_block hf').1] at hgj; cases hgj
    · rw [(free_block hf).1] at hgi; cases hgi

structure AgainG {σ : Type} (L : σ → List (Nat × SV)) (E : σ → List (Nat × Ent)) (μ : σ → Nat) (s : σ) (env : Env) (H : Heap) : Prop where
  h : ∃ s' ρ, μ s' < μ s ∧ ρ.Nodup ∧ FitsE env (L s') ∧ FitsG H ρ (E s')
theorem loopG {n : Nat} {F : TT} (hF : TTok P F) (l : List (ESpec P)) (hm : P.follows .mixedOrders = true) {tabs : Tabs} {body : Code} {Q : QT} {env : Env} {H : Heap} {σ : Type} (ks : List Nat) (L : σ → List (Nat × SV)) (E : σ → List (Nat × Ent)) (μ : σ → Nat) (s0 : σ) (ρ0 : List Nat)
    (h0 : FitsE env (keepE env ks (L s0))) (hn : ρ0.Nodup) (h1 : FitsG H ρ0 (E s0)) {κ : Kp} (hκ : κ = kid)
    (round : ∀ s, vcE κ P F (lookT l) (lookE l) n tabs body (thenV Q (AgainG (fun s => keepE env ks (L s)) E μ s)) (envOf (keepE env ks (L s))) (heapOf (E s))) : LoopAt P n tabs body Q env H := by
  subst hκ
  rw [LoopAt_def]
  intro ht w0 M a w hE hH
  intro b k cs
  have key : ∀ m s, μ s = m → ∀ a w, EnvOk n (envOf (keepE env ks (L s))) a → HSat w0 M (heapOf (E s)) w → ∃ e a' w', lift n w0 M Q e a' w' ∧ Arrives P (lone (b.at a (.code body :: .inLoop body :: k)) cs w) b k cs e a' w' := by
    intro m
    induction m using Nat.strongRecOn with
    | _ m ih =>
      intro s hs a w hE hH
      obtain ⟨e, a1, w1, hq, harr⟩ := vcE_sound hF l hm tabs body ht _ _ _ (round s) w0 M a w hE hH b (.inLoop body :: k) cs
      cases e with
      | normal =>
        obtain ⟨env', H', ⟨s', ρ, hlt, hnd, hf1, hf2⟩, hE', hH'⟩ := hq
        obtain ⟨e2, a2, w2, hq2, harr2⟩ := ih (μ s') (hs ▸ hlt) s' rfl a1 w1 (hE'.fits hf1) (hH'.fitsG hnd hf2)
        exact ⟨e2, a2, w2, hq2, .of_steps (Steps.trans harr (.one step_inLoop)) harr2⟩
      | ret => exact ⟨.ret, a1, w1, hq, .pass (x := .inLoop body) rfl (fun _ _ => .inl (by simp)) harr⟩
      | exit id => exact ⟨.exit id, a1, w1, hq, .pass (x := .inLoop body) rfl (fun _ _ => .inl (by simp)) harr⟩
      | goto l => exact hq.elim
      | panic c => exact hq.elim
      | outgrown => exact hq.elim
  obtain ⟨e, a', w', hq, harr⟩ := key _ s0 rfl a w (hE.fits h0) (hH.fitsG hn h1)
  exact ⟨e, a', w', hq, .of_steps (.one step_loop) harr⟩

/-! ### Contracts by what is to be shown behind a call -/
def ConjP (T : KT → Prop) (ok : Nat → Prop) : Prop := ∃ (s : Prop) (R : SV → Upd → Prop), (s → ∃ v u, R v u) ∧ (s → ∀ v u, R v u → ∀ p ∈ u, ok p.1) ∧ ∀ K, T K ↔ s ∧ ∀ v u, R v u → K v u
theorem ConjP.one {ok : Nat → Prop} (v : SV) (u : Upd) (hu : ∀ p ∈ u, ok p.1) : ConjP (fun K => K v u) ok :=
  ⟨True, fun v' u' => v' = v ∧ u' = u, fun _ => ⟨v, u, rfl, rfl⟩, fun _ v' u' h => by rw [h.2]; exact hu, fun K => ⟨fun h => ⟨trivial, fun v' u' e => by rw [e.1, e.2]; exact h⟩, fun h => h.2 v u ⟨rfl, rfl⟩⟩⟩
theorem ConjP.false_ {ok : Nat → Prop} : ConjP (fun _ => False) ok := ⟨False, fun _ _ => False, fun h => h.elim, fun h => h.elim, fun K => ⟨fun h => h.elim, fun h => h.1⟩⟩
theorem ConjP.and_ {T : KT → Prop} {ok : Nat → Prop} {p : Prop} (h : p → ConjP T ok) : ConjP (fun K => p ∧ T K) ok := by
  by_cases hp : p
  · obtain ⟨s, R, h0, h1, h2⟩ := h hp
    exact ⟨s, R, h0, h1, fun K => ⟨fun hh => (h2 K).1 hh.2, fun hh => ⟨hp, (h2 K).2 hh⟩⟩⟩
  · exact ⟨False, fun _ _ => False, fun h => h.elim, fun h => h.elim, fun K => ⟨fun h => absurd h.1 hp, fun h => h.1.elim⟩⟩
theorem ConjP.side {T : KT → Prop} {ok : Nat → Prop} {p : Prop} (h : p → ConjP T ok) : ConjP (fun K => Side p ∧ T K) ok := .and_ fun hp => h hp.h
theorem ConjP.all_ {α : Type} {ok : Nat → Prop} [Inhabited α] (f : α → SV) (g : α → Upd) (hu : ∀ x, ∀ p ∈ g x, ok p.1) : ConjP (fun K => ∀ x, K (f x) (g x)) ok :=
  ⟨True, fun v u => ∃ x, v = f x ∧ u = g x, fun _ => ⟨f default, g default, default, rfl, rfl⟩, fun _ v u ⟨x, h⟩ => by rw [h.2]; exact hu x,
   fun K => ⟨fun h => ⟨trivial, fun v u ⟨x, e⟩ => by rw [e.1, e.2]; exact h x⟩, fun h x => h.2 _ _ ⟨x, rfl, rfl⟩⟩⟩
theorem ConjP.all2 {α β : Type} {ok : Nat → Prop} [Inhabited α] [Inhabited β] (f : α → β → SV) (g : α → β → Upd) (hu : ∀ x y, ∀ p ∈ g x y, ok p.1) : ConjP (fun K => ∀ x y, K (f x y) (g x y)) ok :=
  ⟨True, fun v u => ∃ x y, v = f x y ∧ u = g x y, fun _ => ⟨f default default, g default default, default, default, rfl, rfl⟩, fun _ v u ⟨x, y, h⟩ => by rw [h.2]; exact hu x y,
   fun K => ⟨fun h => ⟨trivial, fun v u ⟨x, y, e⟩ => by rw [e.1, e.2]; exact h x y⟩, fun h x y => h.2 _ _ ⟨x, y, rfl, rfl⟩⟩⟩
theorem ConjP.tst {b : Bool} {T T' : KT → Prop} {ok : Nat → Prop} (h : b = true → ConjP T ok) (h' : b = false → ConjP T' ok) : ConjP (fun K => match b with | true => T K | false => T' K) ok := by
  cases b
  · exact h' rfl
  · exact h rfl
/-- A thing is told by what it is the code of. -/
structure LookX {X Y : Type} (enc : X → Y) (xs : Y) (K : X → Prop) : Prop where
  h : ∃ x, xs = enc x ∧ K x
theorem LookX.mk' {X Y : Type} {enc : X → Y} {xs : Y} {K : X → Prop} {x : X} (h : xs = enc x) (hK : K x) : LookX enc xs K := ⟨x, h, hK⟩
theorem ConjP.look {X Y : Type} {enc : X → Y} (inj : ∀ x y, enc x = enc y → x = y) {xs : Y} {T : X → KT → Prop} {ok : Nat → Prop} (h : ∀ x, xs = enc x → ConjP (T x) ok) : ConjP (fun K => LookX enc xs fun x => T x K) ok := by
  by_cases hx : ∃ x, xs = enc x
  · obtain ⟨x, rfl⟩ := hx
    obtain ⟨s, R, h0, h1, h2⟩ := h x rfl
    refine ⟨s, R, h0, h1, fun K => ?_⟩
    rw [← h2 K]
    exact ⟨fun ⟨y, hy, hT⟩ => by rw [inj x y hy]; exact hT, fun hT => ⟨x, rfl, hT⟩⟩
  · exact ⟨False, fun _ _ => False, fun h => h.elim, fun h => h.elim, fun K => ⟨fun ⟨y, hy, _⟩ => absurd ⟨y, hy⟩ hx, fun h => h.1.elim⟩⟩

def specT (T : TSpec) : Spec := fun args H d => ⟨T args H d fun _ _ => True, fun v u => T args H d (fun _ _ => True) ∧ ∀ K : KT, T args H d K → K v u⟩
abbrev okKey (wr : Bool) (H : Heap) (d : Nat) : Nat → Prop := fun i => i = d ∨ i = d + 100000 ∨ i = d + 200000 ∨ (wr = true ∧ (H i).isSome = true)

def ES {f : FuncId} (hB : Bodied P f) (wr : Bool) (T : Kp → TSpec) {κ : Kp} (hκ : κ = kid) (hC : ∀ args H d, ConjP (T kid args H d) (okKey wr H d))
    (run : ∀ (args : List SV) (H0 H : Heap) (d : Nat) (w0 : World) (M : Nat → Prop) (w : World), T kid args H0 d (fun _ _ => True) → (∀ i e, H0 i = some e → H i = some e) → HSat w0 M H w →
      Calls P f (args.map SV.den).toArray w fun e w' => ∃ v u x, e = .returned x ∧ (∀ K : KT, T kid args H0 d K → K v u) ∧ (v.known = true → x = v.den) ∧ HSat w0 M (upds H u) w') : ESpec P where
  f := f
  wr := wr
  S := specT (T kid)
  ok :=
    { run := fun args H0 H d w0 M w hs hsub hH => (run args H0 H d w0 M w hs hsub hH).mono fun e w' ⟨v, u, x, h1, h2, h3, h4⟩ => ⟨v, u, x, h1, ⟨hs, h2⟩, h3, h4⟩
      some_ := fun args H d hs => by
        obtain ⟨s, R, h0, h1, h2⟩ := hC args H d
        obtain ⟨v, u, hR⟩ := h0 ((h2 _).1 hs).1
        exact ⟨v, u, hs, fun K hK => ((h2 K).1 hK).2 v u hR⟩
      keys := fun args H d v u hR => by
        obtain ⟨s, R, h0, h1, h2⟩ := hC args H d
        have hs := ((h2 _).1 hR.1).1
        exact hR.2 (fun _ u => ∀ p ∈ u, okKey wr H d p.1) ((h2 _).2 ⟨hs, h1 hs⟩)
      body := fun _ _ _ _ => hB }
  T := T κ
  hT := by
    subst hκ
    intro args H d K
    obtain ⟨s, R, h0, h1, h2⟩ := hC args H d
    apply propext
    constructor
    · intro hK
      have hs := ((h2 K).1 hK).1
      have ht : T kid args H d fun _ _ => True := (h2 _).2 ⟨hs, fun _ _ _ => trivial⟩
      exact ⟨ht, fun v u hR => hR.2 K hK⟩
    · rintro ⟨hs, hall⟩
      have hs' := ((h2 _).1 hs).1
      exact (h2 K).2 ⟨hs', fun v u hR => hall v u ⟨hs, fun K' hK' => ((h2 K').1 hK').2 v u hR⟩⟩

/-! ### Rows of like things -/
section
variable {X : Type} {f : X → List C} {z : Nat}
theorem enc_len (hz : ∀ x, (f x).length = z) : ∀ l : List X, (l.flatMap f).length = l.length * z
  | [] => by simp
  | x :: r => by rw [List.flatMap_cons, List.length_append, hz, enc_len hz r, List.length_cons, Nat.add_mul]; omega
theorem enc_get (hz : ∀ x, (f x).length = z) : ∀ (l : List X) (i : Nat) (x : X) (o : Nat), l[i]? = some x → o < z → (l.flatMap f)[i * z + o]? = (f x)[o]?
  | [], i, x, o, h, _ => by simp at h
  | y :: r, 0, x, o, h, ho => by
    simp at h
    subst h
    rw [List.flatMap_cons, Nat.zero_mul, Nat.zero_add, List.getElem?_append_left (by rw [hz]; exact ho)]
  | y :: r, i + 1, x, o, h, ho => by
    rw [List.flatMap_cons, List.getElem?_append_right (by rw [hz, Nat.add_mul]; omega), hz, show (i + 1) * z + o - z = i * z + o by rw [Nat.add_mul]; omega]
    exact enc_get hz r i x o (by simpa using h) ho
theorem enc_take (hz : ∀ x, (f x).length = z) (h0 : 0 < z) (l : List X) (i : Nat) (x : X) (h : l[i]? = some x) : takeN (l.flatMap f) (i * z) z = some (f x) := by
  have hi : i < l.length := (List.getElem?_eq_some_iff.1 h).1
  have hl := enc_len hz l
  have hle : i * z + z ≤ (l.flatMap f).length := by rw [hl]; have := Nat.mul_le_mul_right z (show i + 1 ≤ l.length from hi); rw [Nat.add_mul] at this; omega
  unfold takeN
  rw [if_pos ⟨h0, hle⟩]
  congr 1
  apply List.ext_getElem?
  intro j
  rw [getElem?_drop_take]
  split
  · rename_i hj; exact enc_get hz l i x j h hj
  · rename_i hj; exact (List.getElem?_eq_none (by rw [hz]; omega)).symm
theorem enc_put (hz : ∀ x, (f x).length = z) (l : List X) (i : Nat) (x x' : X) (o : Nat) (c : C) (h : l[i]? = some x) (ho : o < z) (hx : f x' = (f x).set o c) : putCells (l.flatMap f) (i * z + o) [c] = (l.set i x').flatMap f := by
  have hi : i < l.length := (List.getElem?_eq_some_iff.1 h).1
  show (l.flatMap f).set (i * z + o) c = _
  revert i
  induction l with
  | nil => intro i h hi; simp at hi
  | cons y r ih =>
    intro i h hi
    cases i with
    | zero =>
      simp at h
      subst h
      rw [List.set_cons_zero, List.flatMap_cons, List.flatMap_cons, Nat.zero_mul, Nat.zero_add, List.set_append_left _ _ (by rw [hz]; exact ho), hx]
    | succ i =>
      rw [List.set_cons_succ, List.flatMap_cons, List.flatMap_cons, List.set_append_right _ _ (by rw [hz, Nat.add_mul]; omega), hz, show (i + 1) * z + o - z = i * z + o by rw [Nat.add_mul]; omega]
      rw [ih i (by simpa using h) (by simpa using hi)]
theorem enc_ok1 (h1 : ∀ x, ok1 (f x) = true) : ∀ l : List X, ok1 (l.flatMap f) = true
  | [] => rfl
  | x :: r => by
    rw [List.flatMap_cons]
    have a := h1 x
    have b := enc_ok1 h1 r
    unfold ok1 at *
    rw [List.all_append, a, b]
    rfl
theorem enc_inj (hz : ∀ x, (f x).length = z) (h0 : 0 < z) (hf : ∀ x y, f x = f y → x = y) : ∀ l l' : List X, l.flatMap f = l'.flatMap f → l = l'
  | [], [], _ => rfl
  | [], y :: r, h => by
    have := congrArg List.length h
    rw [List.flatMap_cons, List.length_append, hz] at this
    simp at this
    omega
  | x :: r, [], h => by
    have := congrArg List.length h
    rw [List.flatMap_cons, List.length_append, hz] at this
    simp at this
    omega
  | x :: r, y :: s, h => by
    rw [List.flatMap_cons, List.flatMap_cons] at h
    obtain ⟨h1, h2⟩ := List.append_inj h (by rw [hz, hz])
    rw [hf x y h1, enc_inj hz h0 hf r s h2]
end
end Go.Proofs.Ytbcicjmepojlnaa.Eng
/- An area as this work speaks of it, and what the functions of layer 6 come to, in plain words; no condition. -/
namespace Go.Proofs.Ytbcicjmepojlnaa.Eng
open Go Go.RowKit
set_option autoImplicit false

structure Ar where
  s : Int
  e : Int
  p : Int
  sh : Bool
  b : Int
  o : Int
structure At where
  p : Int
  sh : Bool
  b : Int
  o : Int
def encA (a : Ar) : List C := [.v (.int .i64 a.s), .v (.int .i64 a.e), .v (.int .i64 a.p), .v (.bool a.sh), .v (.int .i64 a.b), .v (.int .i64 a.o)]
def encT (a : At) : List C := [.v (.int .i64 a.p), .v (.bool a.sh), .v (.int .i64 a.b), .v (.int .i64 a.o)]
def valA (a : Ar) : Value := .agg #[.int .i64 a.s, .int .i64 a.e, .int .i64 a.p, .bool a.sh, .int .i64 a.b, .int .i64 a.o]
def noAr : Ar := ⟨0, 0, 0, false, 0, 0⟩
def noAt : At := ⟨0, false, 0, 0⟩
@[simp] theorem Ar.eta (a : Ar) : (⟨a.s, a.e, a.p, a.sh, a.b, a.o⟩ : Ar) = a := rfl
@[simp] theorem At.eta (a : At) : (⟨a.p, a.sh, a.b, a.o⟩ : At) = a := rfl

abbrev w64 (n : Int) : Int := IntKind.i64.wrap n
def whole (n : Int) : Bool := Int.tmod n 4096 == 0
def formed (a : Ar) : Bool :=
  if (!whole a.s || !whole a.e || decide (a.s < 65536) || decide (a.e > 2097152) || decide (a.s ≥ a.e)) = true then false
  else if (decide (a.p < 0) || decide (a.p > 7) || decide (a.b < 0) || decide (a.b > 9)) = true then false
  else if a.b = 0 then a.o == 0
  else whole a.o && decide (a.o ≥ 0) && decide (a.o ≤ w64 (1099511627776 - w64 (a.e - a.s)))
def hasA (a : Ar) (at_ : Int) : Bool := formed a && decide (at_ ≥ a.s) && decide (at_ < a.e)
def offA (a : Ar) (at_ : Int) : Int := if a.b = 0 then 0 else w64 (w64 (a.o + at_) - a.s)
def attrA (a : Ar) (at_ : Int) : At := if hasA a at_ = true then ⟨a.p, a.sh, a.b, offA a (w64 (at_ - Int.tmod at_ 4096))⟩ else noAt
def goesA (a b : Ar) : Bool := formed a && formed b && a.e == b.s && a.p == b.p && a.sh == b.sh && a.b == b.b && b.o == offA a a.e
def joinsA (a b : Ar) : Bool := goesA a b && formed ⟨a.s, b.e, a.p, a.sh, a.b, a.o⟩
def joinA (a b : Ar) : Ar := if joinsA a b = true then { a with e := b.e } else noAr
def floorA (n : Int) : Int := w64 (n - Int.tmod (w64 (Int.tmod n 4096 + 4096)) 4096)
def ceilA (n : Int) : Int := if n > 2097152 then 2097152 else w64 (0 - floorA (w64 (0 - n)))
def maxI (a b : Int) : Int := if b > a then b else a
def minI (a b : Int) : Int := if b < a then b else a
def fromA (a : Ar) (lo : Int) : Int := maxI a.s (floorA (maxI lo 0))
def toA (a : Ar) (hi : Int) : Int := minI a.e (ceilA hi)
theorem maxI_def (a b : Int) : maxI a b = if b > a then b else a := rfl
theorem minI_def (a b : Int) : minI a b = if b < a then b else a := rfl
theorem fromA_def (a : Ar) (lo : Int) : fromA a lo = maxI a.s (floorA (maxI lo 0)) := rfl
theorem toA_def (a : Ar) (hi : Int) : toA a hi = minI a.e (ceilA hi) := rfl
def hasPart (a : Ar) (lo hi : Int) : Bool :=
  if (!formed a || decide (hi ≤ a.s) || decide (lo ≥ a.e) || decide (lo ≥ hi)) = true then false
  else !decide (fromA a lo ≥ toA a hi)
def partA (a : Ar) (lo hi : Int) : Ar := if hasPart a lo hi = true then ⟨fromA a lo, toA a hi, a.p, a.sh, a.b, offA a (fromA a lo)⟩ else noAr
def mayA (a : Ar) (k : Int) : Bool := decide (k ≥ 1) && decide (k ≤ 7) && bits .and .i64 a.p k == k

end Go.Proofs.Ytbcicjmepojlnaa.Eng
/- Plain facts on areas: what is formed, floors, parts, joins; no condition but those typed. -/
namespace Go.Proofs.Ytbcicjmepojlnaa.Eng
open Go Go.RowKit
set_option autoImplicit false

def In64 (n : Int) : Prop := -9223372036854775808 ≤ n ∧ n ≤ 9223372036854775807
theorem w64_id {n : Int} (h : In64 n) : w64 n = n := by
  unfold w64 IntKind.wrap
  obtain ⟨h1, h2⟩ := h
  simp only [IntKind.signed, IntKind.bits, Bool.true_and, decide_eq_true_eq, ge_iff_le]
  split <;> omega
theorem tmod_pos {n : Int} (h : 0 ≤ n) : Int.tmod n 4096 = n % 4096 := Int.tmod_eq_emod_of_nonneg h
theorem tmod_neg {n : Int} (h : n < 0) : Int.tmod n 4096 = -((-n) % 4096) := by
  have : Int.tmod n 4096 = -(Int.tmod (-n) 4096) := by rw [Int.neg_tmod]; omega
  rw [this, Int.tmod_eq_emod_of_nonneg (by omega)]
theorem whole_iff (n : Int) : whole n = true ↔ n % 4096 = 0 := by
  unfold whole
  rw [beq_iff_eq]
  rcases (by omega : n < 0 ∨ 0 ≤ n) with h | h
  · rw [tmod_neg h]; omega
  · rw [tmod_pos h]
theorem formed_iff (a : Ar) : formed a = true ↔ a.s % 4096 = 0 ∧ a.e % 4096 = 0 ∧ 65536 ≤ a.s ∧ a.e ≤ 2097152 ∧ a.s < a.e ∧ 0 ≤ a.p ∧ a.p ≤ 7 ∧ 0 ≤ a.b ∧ a.b ≤ 9 ∧
    (a.b = 0 → a.o = 0) ∧ (a.b ≠ 0 → a.o % 4096 = 0 ∧ 0 ≤ a.o ∧ a.o ≤ 1099511627776 - (a.e - a.s)) := by
  unfold formed
  split
  · rename_i h
    simp only [Bool.or_eq_true, Bool.not_eq_true', decide_eq_true_eq, ← Bool.not_eq_true, whole_iff] at h
    constructor
    · intro h'; cases h'
    · rintro ⟨h1, h2, h3, h4, h5, _⟩; omega
  · rename_i h
    simp only [Bool.or_eq_true, Bool.not_eq_true', decide_eq_true_eq, ← Bool.not_eq_true, whole_iff] at h
    split
    · rename_i h2
      simp only [Bool.or_eq_true, decide_eq_true_eq] at h2
      constructor
      · intro h'; cases h'
      · rintro ⟨_, _, _, _, _, h6, h7, h8, h9, _⟩; omega
    · rename_i h2
      simp only [Bool.or_eq_true, decide_eq_true_eq] at h2
      split
      · rename_i hb
        rw [beq_iff_eq]
        constructor
        · intro h'; refine ⟨?_, ?_, ?_, ?_, ?_, ?_, ?_, ?_, ?_, fun _ => h', fun h => absurd hb h⟩ <;> omega
        · rintro ⟨_, _, _, _, _, _, _, _, _, h, _⟩; exact h hb
      · rename_i hb
        have e1 : w64 (a.e - a.s) = a.e - a.s := w64_id (by unfold In64; omega)
        have e2 : w64 (1099511627776 - w64 (a.e - a.s)) = 1099511627776 - (a.e - a.s) := by rw [e1]; exact w64_id (by unfold In64; omega)
        rw [e2, Bool.and_eq_true, Bool.and_eq_true, whole_iff, decide_eq_true_eq, decide_eq_true_eq]
        constructor
        · rintro ⟨⟨h3, h4⟩, h5⟩; refine ⟨?_, ?_, ?_, ?_, ?_, ?_, ?_, ?_, ?_, fun h => absurd h hb, fun _ => ⟨h3, h4, h5⟩⟩ <;> omega
        · rintro ⟨_, _, _, _, _, _, _, _, _, _, h⟩; exact ⟨⟨(h hb).1, (h hb).2.1⟩, (h hb).2.2⟩
theorem floorA_eq {n : Int} (h : -4611686018427387904 ≤ n ∧ n ≤ 4611686018427387904) : floorA n = n - n % 4096 := by
  unfold floorA
  rcases (by omega : n < 0 ∨ 0 ≤ n) with h0 | h0
  · rw [tmod_neg h0, w64_id (n := -(-n % 4096) + 4096) (by unfold In64; omega), tmod_pos (by omega), w64_id (by unfold In64; omega)]
    omega
  · rw [tmod_pos h0, w64_id (n := n % 4096 + 4096) (by unfold In64; omega), tmod_pos (by omega), w64_id (by unfold In64; omega)]
    omega
theorem ceilA_eq {n : Int} (h : -4611686018427387904 ≤ n) (h2 : n ≤ 2097152) : ceilA n = n + (-n) % 4096 := by
  unfold ceilA
  rw [if_neg (by omega), w64_id (n := 0 - n) (by unfold In64; omega), floorA_eq (by omega), w64_id (by unfold In64; omega)]
  have : (0 - n) = -n := by omega
  rw [this]
  omega
theorem offA_eq {a : Ar} (h : formed a = true) {at_ : Int} (h1 : 0 ≤ at_) (h2 : at_ ≤ 2097152) : offA a at_ = if a.b = 0 then 0 else a.o + at_ - a.s := by
  have hf := (formed_iff a).1 h
  unfold offA
  split
  · rfl
  · rename_i hb
    have := hf.2.2.2.2.2.2.2.2.2.2 hb
    rw [w64_id (n := a.o + at_) (by unfold In64; omega), w64_id (by unfold In64; omega)]
theorem aw1 : formed ⟨65536, 69632, 1, false, 0, 0⟩ = true := by decide +kernel
theorem aw2 : mayA ⟨0, 0, 3, false, 0, 0⟩ 2 = true := by decide +kernel
theorem hasPart_in {a : Ar} (h : formed a = true) {lo hi : Int} (h1 : a.s ≤ lo) (h2 : lo < hi) (h3 : hi ≤ a.e) (h4 : lo % 4096 = 0) (h5 : hi % 4096 = 0) : fromA a lo = lo ∧ toA a hi = hi ∧ hasPart a lo hi = true ∧ partA a lo hi = ⟨lo, hi, a.p, a.sh, a.b, offA a lo⟩ := by
  have hf := (formed_iff a).1 h
  have e1 : fromA a lo = lo := by
    unfold fromA maxI
    rw [if_neg (by omega : ¬ 0 > lo), floorA_eq (by omega)]
    split <;> omega
  have e2 : toA a hi = hi := by
    unfold toA minI
    rw [ceilA_eq (by omega) (by omega)]
    split <;> omega
  have e3 : hasPart a lo hi = true := by
    unfold hasPart
    rw [e1, e2]
    have d1 : decide (hi ≤ a.s) = false := by simp; omega
    have d2 : decide (lo ≥ a.e) = false := by simp; omega
    have d3 : decide (lo ≥ hi) = false := by simp; omega
    simp [h, d1, d2, d3]
  refine ⟨e1, e2, e3, ?_⟩
  unfold partA
  rw [if_pos e3, e1, e2]
theorem hasPart_none {a : Ar} {lo hi : Int} (h : hi ≤ lo) : hasPart a lo hi = false := by
  unfold hasPart
  have d3 : decide (lo ≥ hi) = true := by simp; omega
  simp [d3]
theorem formed_sub {a : Ar} (h : formed a = true) {lo hi : Int} (h1 : a.s ≤ lo) (h2 : lo < hi) (h3 : hi ≤ a.e) (h4 : lo % 4096 = 0) (h5 : hi % 4096 = 0) : formed ⟨lo, hi, a.p, a.sh, a.b, offA a lo⟩ = true := by
  have hf := (formed_iff a).1 h
  rw [formed_iff, offA_eq h (by omega) (by omega)]
  obtain ⟨f1, f2, f3, f4, f5, f6, f7, f8, f9, f10, f11⟩ := hf
  refine ⟨h4, h5, by simp only; omega, by simp only; omega, h2, f6, f7, f8, f9, fun hb => if_pos hb, fun hb => ?_⟩
  have := f11 hb
  simp only
  rw [if_neg hb]
  omega
theorem back_pure {a : Ar} (h : formed a = true) {c : Int} (hc : c % 4096 = 0) (h1 : a.s < c) (h2 : c < a.e) :
    hasPart a a.s c = true ∧ hasPart a c a.e = true ∧ joinsA (partA a a.s c) (partA a c a.e) = true ∧ joinA (partA a a.s c) (partA a c a.e) = a ∧ goesA (partA a a.s c) (partA a c a.e) = true := by
  have hf := (formed_iff a).1 h
  obtain ⟨_, _, e3, e4⟩ := hasPart_in h (Int.le_refl _) h1 (by omega) hf.1 hc
  obtain ⟨_, _, e5, e6⟩ := hasPart_in h (by omega) h2 (Int.le_refl _) hc hf.2.1
  have eo : offA a a.s = a.o := by
    rw [offA_eq h (by omega) (by omega)]
    split
    · rename_i hb; exact (hf.2.2.2.2.2.2.2.2.2.1 hb).symm
    · omega
  have f1 := formed_sub h (Int.le_refl _) h1 (by omega) hf.1 hc
  have f2 := formed_sub h (by omega) h2 (Int.le_refl _) hc hf.2.1
  have hg : goesA (partA a a.s c) (partA a c a.e) = true := by
    rw [e4, e6]
    unfold goesA
    rw [f1, f2]
    have : offA a c = offA ⟨a.s, c, a.p, a.sh, a.b, offA a a.s⟩ c := by
      unfold offA
      simp only
      split
      · rfl
      · rename_i hb
        have eo' := eo
        unfold offA at eo'
        rw [if_neg hb] at eo'
        rw [eo']
    rw [← this]
    simp
  have hj : joinsA (partA a a.s c) (partA a c a.e) = true := by
    unfold joinsA
    rw [hg, e4, e6]
    simp only [Bool.true_and]
    rw [eo]
    exact h
  refine ⟨e3, e5, hj, ?_, hg⟩
  unfold joinA
  rw [if_pos hj, e4, e6]
  simp only [eo, Ar.eta]
theorem back_key {a : Ar} {at_ : Int} (h : formed a = true) (h1 : a.s < at_) (h2 : at_ < a.e) :
    (IntKind.i64.wrap (at_ - Int.tmod at_ 4096) = a.s → hasPart a a.s a.s = false ∧ hasPart a a.s a.e = true ∧ partA a a.s a.e = a) ∧
    (¬ IntKind.i64.wrap (at_ - Int.tmod at_ 4096) = a.s → hasPart a a.s (IntKind.i64.wrap (at_ - Int.tmod at_ 4096)) = true ∧ hasPart a (IntKind.i64.wrap (at_ - Int.tmod at_ 4096)) a.e = true ∧ joinsA (partA a a.s (IntKind.i64.wrap (at_ - Int.tmod at_ 4096))) (partA a (IntKind.i64.wrap (at_ - Int.tmod at_ 4096)) a.e) = true ∧ joinA (partA a a.s (IntKind.i64.wrap (at_ - Int.tmod at_ 4096))) (partA a (IntKind.i64.wrap (at_ - Int.tmod at_ 4096)) a.e) = a ∧ goesA (partA a a.s (IntKind.i64.wrap (at_ - Int.tmod at_ 4096))) (partA a (IntKind.i64.wrap (at_ - Int.tmod at_ 4096)) a.e) = true) := by
  have hf := (formed_iff a).1 h
  have hw : IntKind.i64.wrap (at_ - Int.tmod at_ 4096) = at_ - at_ % 4096 := by
    rw [tmod_pos (by omega)]
    exact w64_id (by unfold In64; omega)
  rw [hw]
  constructor
  · intro he
    obtain ⟨_, _, e3, e4⟩ := hasPart_in h (Int.le_refl _) hf.2.2.2.2.1 (Int.le_refl _) hf.1 hf.2.1
    refine ⟨hasPart_none (Int.le_refl _), e3, ?_⟩
    rw [e4, offA_eq h (by omega) (by omega)]
    split
    · rename_i hb
      have := hf.2.2.2.2.2.2.2.2.2.1 hb
      rw [← this]
    · have : a.o + a.s - a.s = a.o := by omega
      rw [this]
  · intro hne
    exact back_pure h (by omega) (by omega) (by omega)
/-- '==' of two areas, as the program has it. -/
def eqA (x y : Ar) : Bool := x.s == y.s && (x.e == y.e && (x.p == y.p && (x.sh == y.sh && (x.b == y.b && (x.o == y.o && true)))))
theorem eqA_iff (x y : Ar) : eqA x y = true ↔ x = y := by
  cases x; cases y
  simp [eqA]

end Go.Proofs.Ytbcicjmepojlnaa.Eng
/- What the reference of layer 6 says, in plain words, and that it says what the program's layer says; no condition. -/
namespace Go.Proofs.Ytbcicjmepojlnaa.Eng
open Go Go.RowKit
set_option autoImplicit false

def refBad (a : Ar) : Bool := !(decide (a.s ≥ 65536) && decide (a.e ≤ 2097152) && decide (a.s < a.e) && Int.tmod a.s 4096 == 0 && Int.tmod a.e 4096 == 0) || decide (a.p < 0) || decide (a.p > 7) || decide (a.b < 0) || decide (a.b > 9) || decide (a.o < 0) || Int.tmod a.o 4096 != 0
def refF (a : Ar) : Bool := if refBad a = true then false
  else (a.b == 0 && a.o == 0) || (decide (a.b > 0) && decide (a.o ≤ w64 (1099511627776 - w64 (a.e - a.s))))
def refHas (a : Ar) (q : Int) : Bool := if (decide (q < w64 (Int.tdiv a.s 4096)) || decide (q ≥ w64 (Int.tdiv a.e 4096))) = true then false else true
def refAttr (a : Ar) (q : Int) : At := if refHas a q = true then ⟨a.p, a.sh, a.b, if decide (a.b > 0) = true then w64 (a.o + w64 (4096 * w64 (q - w64 (Int.tdiv a.s 4096)))) else 0⟩ else noAt
def afterA (x y : At) : Bool := x.p == y.p && (x.sh == y.sh && (x.b == y.b && ((if decide (x.b > 0) = true then w64 (x.o + 4096) else x.o) == y.o && true)))

theorem whole_def (n : Int) : (Int.tmod n 4096 == 0) = whole n := rfl
theorem whole_neg (n : Int) : (Int.tmod n 4096 != 0) = !whole n := rfl
theorem refF_eq (a : Ar) : refF a = formed a := by
  rw [Bool.eq_iff_iff, formed_iff]
  unfold refF
  by_cases h : refBad a = true
  · rw [if_pos h]
    unfold refBad at h
    simp only [whole_def, whole_neg] at h
    simp only [Bool.or_eq_true, Bool.not_eq_true', ← Bool.not_eq_true, decide_eq_true_eq, Bool.and_eq_true, whole_iff] at h
    constructor
    · intro h'; cases h'
    · rintro ⟨h1, h2, h3, h4, h5, h6, h7, h8, h9, h10, h11⟩
      exfalso
      by_cases hb : a.b = 0
      · have := h10 hb; omega
      · have := h11 hb; omega
  · rw [if_neg h]
    unfold refBad at h
    simp only [whole_def, whole_neg] at h
    simp only [Bool.or_eq_true, Bool.not_eq_true', ← Bool.not_eq_true, decide_eq_true_eq, Bool.and_eq_true, whole_iff] at h
    have e1 : w64 (a.e - a.s) = a.e - a.s := w64_id (by unfold In64; omega)
    have e2 : w64 (1099511627776 - w64 (a.e - a.s)) = 1099511627776 - (a.e - a.s) := by rw [e1]; exact w64_id (by unfold In64; omega)
    rw [e2]
    simp only [Bool.or_eq_true, Bool.and_eq_true, beq_iff_eq, decide_eq_true_eq]
    constructor
    · intro h'
      refine ⟨?_, ?_, ?_, ?_, ?_, ?_, ?_, ?_, ?_, fun hb => ?_, fun hb => ⟨?_, ?_, ?_⟩⟩ <;> omega
    · rintro ⟨h1, h2, h3, h4, h5, h6, h7, h8, h9, h10, h11⟩
      by_cases hb : a.b = 0
      · exact .inl ⟨hb, h10 hb⟩
      · exact .inr ⟨by omega, (h11 hb).2.2⟩
theorem tdiv_pos {n : Int} (h : 0 ≤ n) : Int.tdiv n 4096 = n / 4096 := Int.tdiv_eq_ediv_of_nonneg h
theorem forms_key {a : Ar} {x : Int} (h : hasA a x = true) : refAttr a (IntKind.i64.wrap (Int.tdiv x 4096)) = attrA a x := by
  have hh := h
  simp only [hasA, Bool.and_eq_true, decide_eq_true_eq] at hh
  obtain ⟨⟨hf, h1⟩, h2⟩ := hh
  have hf' := (formed_iff a).1 hf
  have e1 : IntKind.i64.wrap (Int.tdiv x 4096) = x / 4096 := by
    rw [tdiv_pos (by omega)]; exact w64_id (by unfold In64; omega)
  have e2 : w64 (Int.tdiv a.s 4096) = a.s / 4096 := by
    rw [tdiv_pos (by omega)]; exact w64_id (by unfold In64; omega)
  have e3 : w64 (Int.tdiv a.e 4096) = a.e / 4096 := by
    rw [tdiv_pos (by omega)]; exact w64_id (by unfold In64; omega)
  have e4 : w64 (x - Int.tmod x 4096) = x - x % 4096 := by
    rw [tmod_pos (by omega)]; exact w64_id (by unfold In64; omega)
  have hr : refHas a (x / 4096) = true := by
    unfold refHas
    rw [e2, e3]
    have d1 : decide (x / 4096 < a.s / 4096) = false := by simp; omega
    have d2 : decide (x / 4096 ≥ a.e / 4096) = false := by simp; omega
    rw [d1, d2]
    rfl
  unfold refAttr attrA
  rw [e1, if_pos hr, if_pos h, e2, e4, offA_eq hf (by omega) (by omega)]
  by_cases hb : a.b = 0
  · rw [if_neg (by simp; omega), if_pos hb]
  · have := hf'.2.2.2.2.2.2.2.2.2.2 hb
    rw [if_pos (by simp; omega), if_neg hb, w64_id (n := x / 4096 - a.s / 4096) (by unfold In64; omega), w64_id (n := 4096 * (x / 4096 - a.s / 4096)) (by unfold In64; omega), w64_id (by unfold In64; omega)]
    congr 1
    omega
end Go.Proofs.Ytbcicjmepojlnaa.Eng
/- Lists of areas as they lie in memory; contracts of functions that are handed one; no condition. -/
namespace Go.Proofs.Ytbcicjmepojlnaa.Eng
open Go Go.RowKit
set_option autoImplicit false
set_option linter.unusedSimpArgs false
set_option linter.unusedVariables false

def encL (l : List Ar) : List C := l.flatMap encA
theorem encA_len (a : Ar) : (encA a).length = 6 := rfl
theorem encA_inj (x y : Ar) (h : encA x = encA y) : x = y := by
  cases x; cases y
  simpa [encA] using h
theorem encL_inj (l l' : List Ar) (h : encL l = encL l') : l = l' := enc_inj encA_len (by decide) encA_inj l l' h
theorem encL_len (l : List Ar) : (encL l).length = l.length * 6 := enc_len encA_len l
def nthA (l : List Ar) (i : Nat) : Ar := l.getD i noAr
theorem nthA_get {l : List Ar} {i : Nat} (h : i < l.length) : l[i]? = some (nthA l i) := by
  unfold nthA
  rw [List.getD_eq_getElem?_getD, List.getElem?_eq_getElem h]
  rfl
theorem area_take {l : List Ar} {i : Nat} (h : i < l.length) : takeN (encL l) (i * 6) 6 = some [.v (.int .i64 (nthA l i).s), .v (.int .i64 (nthA l i).e), .v (.int .i64 (nthA l i).p), .v (.bool (nthA l i).sh), .v (.int .i64 (nthA l i).b), .v (.int .i64 (nthA l i).o)] :=
  enc_take encA_len (by decide) l i _ (nthA_get h)
theorem area_s {l : List Ar} {i : Nat} (h : i < l.length) : (encL l)[i * 6 + 0]? = some (.v (.int .i64 (nthA l i).s)) := enc_get encA_len l i _ 0 (nthA_get h) (by decide)
theorem area_e {l : List Ar} {i : Nat} (h : i < l.length) : (encL l)[i * 6 + 1]? = some (.v (.int .i64 (nthA l i).e)) := enc_get encA_len l i _ 1 (nthA_get h) (by decide)
theorem LookX.auto {X Y : Type} {enc : X → Y} {κ : Kp} (hκ : κ = kid) {x : X} {K : X → Prop} (hK : K (κ _ x)) : LookX enc (κ _ (enc x)) K := by
  subst hκ
  exact ⟨x, rfl, hK⟩
theorem LookX.nil {K : List Ar → Prop} (hK : K []) : LookX encL [] K := ⟨[], rfl, hK⟩

abbrev FunL := Kp → List Ar → List SV → Option (Prop × SV)
def lisT (F : FunL) (κ : Kp) : TSpec := fun args H d K => match args with
  | .c (.sl id A n c) :: rest => match rowOf (H id) with
    | some (A', z, n', xs) => Side (κ _ (A = A' ∧ n = n' ∧ (z = 6 ∨ n = 0))) ∧ LookX encL xs fun l => Side (κ _ (l.length = n)) ∧ match F κ l rest with
      | some (p, v) => Side p ∧ K v []
      | none => False
    | none => False
  | _ => False
section
variable {P : Program} {f : FuncId}
theorem lisT_conj (F : FunL) (args : List SV) (H : Heap) (d : Nat) : ConjP (lisT F kid args H d) (okKey false H d) := by
  unfold lisT
  split
  · split
    · refine .side fun _ => .look encL_inj fun l _ => .side fun _ => ?_
      split
      · exact .side fun _ => .one _ _ (by simp)
      · exact .false_
    · exact .false_
  · exact .false_
theorem rd_holds {H : Heap} {w0 w : World} {M : Nat → Prop} (hH : HSat w0 M H w) {id z n : Nat} {A : Option Addr} {xs : List C} (h : rowOf (H id) = some (A, z, n, xs)) {l : List Ar} (hz : z = 6 ∨ n = 0) (hn : l.length = n) (hx : xs = encL l) : (Ent.rd A 6 l.length (encL l)).holds w := by
  subst hx
  rcases hz with rfl | rfl
  · subst hn
    unfold rowOf at h
    split at h
    · rename_i he
      injection h with h
      injection h with e1 h
      injection h with e2 h
      injection h with e3 e4
      subst e1 e2 e3 e4
      exact hH.holds _ _ he
    · rename_i he
      injection h with h
      injection h with e1 h
      injection h with e2 h
      injection h with e3 e4
      subst e1 e2 e3 e4
      exact gives_row_rd.holds w (hH.holds _ _ he)
    · cases h
  · have : l = [] := List.eq_nil_of_length_eq_zero hn
    subst this
    exact ⟨rfl, fun h => absurd rfl h⟩
/-- A function of one list, and more, that hands back a value. -/
def lisES (hB : Bodied P f) (F : FunL) {κ : Kp} (hκ : κ = kid)
    (hk : ∀ l rest p v, F kid l rest = some (p, v) → p → ∀ (A : Option Addr) (c : Nat) (w : World), (Ent.rd A 6 l.length (encL l)).holds w →
      Calls P f (Value.slice A l.length c :: rest.map SV.den).toArray w fun e w' => e = .returned v.den ∧ Below w.heap.size w w') : ESpec P :=
  ES hB false (lisT F) hκ (lisT_conj F) fun args H0 H d w0 M w hs hsub hH => by
    have hs' := hs
    unfold lisT at hs'
    split at hs'
    case h_2 => exact hs'.elim
    rename_i id A n c rest
    split at hs'
    case h_2 => exact hs'.elim
    rename_i A' z n' xs hrow
    obtain ⟨⟨h1⟩, ⟨l, hx, ⟨h2⟩, h3⟩⟩ := hs'
    obtain ⟨rfl, rfl, hz⟩ := h1
    have hn : l.length = n := h2
    have hrd : (Ent.rd A 6 l.length (encL l)).holds w := rd_holds (hH.drop hsub) hrow hz hn hx
    subst hn
    split at h3
    case h_2 => exact h3.elim
    rename_i p v hF
    refine (hk l rest p v hF h3.1.h A c w hrd).mono ?_
    rintro e w' ⟨rfl, hb⟩
    refine ⟨v, [], v.den, rfl, fun K hK => ?_, fun _ => rfl, hH.below hb⟩
    unfold lisT at hK
    simp only [hrow] at hK
    obtain ⟨_, ⟨l2, hl2, _, h⟩⟩ := hK
    have := encL_inj _ _ (hx.symm.trans hl2)
    subst this
    rw [hF] at h
    exact h.2
abbrev FunL2 := Kp → List Ar → List Ar → Prop × SV
def lis2T (F : FunL2) (κ : Kp) : TSpec := fun args H d K => match args with
  | [.c (.sl id A n c), .c (.sl i2 B m e)] => match rowOf (H id), rowOf (H i2) with
    | some (A', z, n', xs), some (B', y, m', ys) => Side (κ _ (A = A' ∧ n = n' ∧ (z = 6 ∨ n = 0) ∧ B = B' ∧ m = m' ∧ (y = 6 ∨ m = 0))) ∧ LookX encL xs fun l => LookX encL ys fun k => Side (κ _ (l.length = n ∧ k.length = m)) ∧ Side (F κ l k).1 ∧ K (F κ l k).2 []
    | _, _ => False
  | _ => False
theorem lis2T_conj (F : FunL2) (args : List SV) (H : Heap) (d : Nat) : ConjP (lis2T F kid args H d) (okKey false H d) := by
  unfold lis2T
  split
  · split
    · exact .side fun _ => .look encL_inj fun l _ => .look encL_inj fun k _ => .side fun _ => .side fun _ => .one _ _ (by simp)
    · exact .false_
  · exact .false_
/-- A function of two lists that hands back a value. -/
def lis2ES (hB : Bodied P f) (F : FunL2) {κ : Kp} (hκ : κ = kid)
    (hk : ∀ l k, (F kid l k).1 → ∀ (A : Option Addr) (c : Nat) (B : Option Addr) (e : Nat) (w : World), (Ent.rd A 6 l.length (encL l)).holds w → (Ent.rd B 6 k.length (encL k)).holds w →
      Calls P f #[.slice A l.length c, .slice B k.length e] w fun x w' => x = .returned (F kid l k).2.den ∧ Below w.heap.size w w') : ESpec P :=
  ES hB false (lis2T F) hκ (lis2T_conj F) fun args H0 H d w0 M w hs hsub hH => by
    have hs' := hs
    unfold lis2T at hs'
    split at hs'
    case h_2 => exact hs'.elim
    rename_i id A n c i2 B m e
    split at hs'
    case h_2 => exact hs'.elim
    rename_i A' z n' xs B' y m' ys hrow hrow2
    obtain ⟨⟨h1⟩, ⟨l, hx, ⟨k, hy, ⟨h2⟩, ⟨h3⟩, _⟩⟩⟩ := hs'
    obtain ⟨rfl, rfl, hz, rfl, rfl, hz2⟩ := h1
    obtain ⟨hn, hm⟩ : l.length = n ∧ k.length = m := h2
    have hrd : (Ent.rd A 6 l.length (encL l)).holds w := rd_holds (hH.drop hsub) hrow hz hn hx
    have hrd2 : (Ent.rd B 6 k.length (encL k)).holds w := rd_holds (hH.drop hsub) hrow2 hz2 hm hy
    subst hn hm
    refine (hk l k h3 A c B e w hrd hrd2).mono ?_
    rintro x w' ⟨rfl, hb⟩
    refine ⟨(F kid l k).2, [], _, rfl, fun K hK => ?_, fun _ => rfl, hH.below hb⟩
    unfold lis2T at hK
    simp only [hrow, hrow2] at hK
    obtain ⟨_, ⟨l2, hl2, ⟨k2, hk2, _, _, h⟩⟩⟩ := hK
    have := encL_inj _ _ (hx.symm.trans hl2)
    subst this
    have := encL_inj _ _ (hy.symm.trans hk2)
    subst this
    exact h
end
end Go.Proofs.Ytbcicjmepojlnaa.Eng
/- When an area goes on in another one, by their pages' attributes; the join's pages; no condition but those typed. -/
namespace Go.Proofs.Ytbcicjmepojlnaa.Eng
open Go Go.RowKit
set_option autoImplicit false

def eqT (x y : At) : Bool := x.p == y.p && (x.sh == y.sh && (x.b == y.b && (x.o == y.o && true)))
theorem eqT_iff (x y : At) : eqT x y = true ↔ x = y := by
  cases x; cases y
  simp [eqT]
theorem eqT_self (x : At) : eqT x x = true := (eqT_iff x x).2 rfl
theorem w_div {n : Int} (h : 0 ≤ n ∧ n ≤ 2097152) : w64 (Int.tdiv n 4096) = n / 4096 := by
  rw [tdiv_pos h.1]; exact w64_id (by unfold In64; omega)
/-- A formed area's page's attributes, plainly. -/
theorem refAttr_in {a : Ar} (h : formed a = true) {q : Int} (h1 : a.s / 4096 ≤ q) (h2 : q < a.e / 4096) :
    refHas a q = true ∧ refAttr a q = ⟨a.p, a.sh, a.b, if a.b = 0 then 0 else a.o + 4096 * (q - a.s / 4096)⟩ := by
  have hf := (formed_iff a).1 h
  have e2 : w64 (Int.tdiv a.s 4096) = a.s / 4096 := w_div (by omega)
  have e3 : w64 (Int.tdiv a.e 4096) = a.e / 4096 := w_div (by omega)
  have hr : refHas a q = true := by
    unfold refHas
    rw [e2, e3]
    have d1 : decide (q < a.s / 4096) = false := by simp; omega
    have d2 : decide (q ≥ a.e / 4096) = false := by simp; omega
    rw [d1, d2]
    rfl
  refine ⟨hr, ?_⟩
  unfold refAttr
  rw [if_pos hr, e2]
  by_cases hb : a.b = 0
  · rw [if_neg (by simp; omega), if_pos hb]
  · have := hf.2.2.2.2.2.2.2.2.2.2 hb
    rw [if_pos (by simp; omega), if_neg hb, w64_id (n := q - a.s / 4096) (by unfold In64; omega), w64_id (n := 4096 * (q - a.s / 4096)) (by unfold In64; omega), w64_id (by unfold In64; omega)]
theorem refHas_iff {a : Ar} (h : formed a = true) (q : Int) : refHas a q = true ↔ a.s / 4096 ≤ q ∧ q < a.e / 4096 := by
  have hf := (formed_iff a).1 h
  constructor
  · intro hr
    unfold refHas at hr
    rw [w_div (n := a.s) (by omega), w_div (n := a.e) (by omega)] at hr
    split at hr
    · cases hr
    · rename_i hn
      simp only [Bool.or_eq_true, decide_eq_true_eq] at hn
      omega
  · intro hq
    exact (refAttr_in h hq.1 hq.2).1
theorem after_iff {x y : At} : afterA x y = true ↔ x.p = y.p ∧ x.sh = y.sh ∧ x.b = y.b ∧ (if x.b > 0 then w64 (x.o + 4096) else x.o) = y.o := by
  unfold afterA
  simp only [Bool.and_eq_true, beq_iff_eq, decide_eq_true_eq, and_true]
theorem goes_iff (a b : Ar) : goesA a b = true ↔ formed a = true ∧ formed b = true ∧ a.e = b.s ∧ a.p = b.p ∧ a.sh = b.sh ∧ a.b = b.b ∧ b.o = (if a.b = 0 then 0 else a.o + a.e - a.s) := by
  unfold goesA
  simp only [Bool.and_eq_true, beq_iff_eq]
  constructor
  · rintro ⟨⟨⟨⟨⟨⟨h1, h2⟩, h3⟩, h4⟩, h5⟩, h6⟩, h7⟩
    have hf := (formed_iff a).1 h1
    rw [offA_eq h1 (by omega) (by omega)] at h7
    exact ⟨h1, h2, h3, h4, h5, h6, h7⟩
  · rintro ⟨h1, h2, h3, h4, h5, h6, h7⟩
    have hf := (formed_iff a).1 h1
    refine ⟨⟨⟨⟨⟨⟨h1, h2⟩, h3⟩, h4⟩, h5⟩, h6⟩, ?_⟩
    rw [offA_eq h1 (by omega) (by omega)]
    exact h7
/-- As the reference has it. -/
theorem goes_ref (a b : Ar) : goesA a b = (formed a && formed b && (a.e == b.s) && afterA (refAttr a (w64 (w64 (Int.tdiv a.e 4096) - 1))) (refAttr b (w64 (Int.tdiv b.s 4096)))) := by
  rw [Bool.eq_iff_iff, goes_iff]
  simp only [Bool.and_eq_true, beq_iff_eq]
  by_cases ha0 : formed a = false
  · simp [ha0]
  have ha : formed a = true := by simpa using ha0
  by_cases hb0 : formed b = false
  · simp [hb0]
  have hb : formed b = true := by simpa using hb0
  have fa := (formed_iff a).1 ha
  have fb := (formed_iff b).1 hb
  rw [w_div (n := a.e) (by omega), w_div (n := b.s) (by omega), w64_id (n := a.e / 4096 - 1) (by unfold In64; omega), (refAttr_in ha (q := a.e / 4096 - 1) (by omega) (by omega)).2, (refAttr_in hb (q := b.s / 4096) (by omega) (by omega)).2, after_iff]
  simp only [ha, hb, true_and]
  have hmul : 4096 * (a.e / 4096 - 1 - a.s / 4096) = a.e - 4096 - a.s := by omega
  have hz : 4096 * (b.s / 4096 - b.s / 4096) = 0 := by omega
  rw [hmul, hz]
  by_cases h0 : a.b = 0
  · rw [if_pos h0, if_neg (by omega), if_pos h0]
    have := fb.2.2.2.2.2.2.2.2.2.1
    constructor
    · rintro ⟨h1, h2, h3, h4, h5⟩
      refine ⟨h1, h2, h3, h4, ?_⟩
      rw [if_pos (by omega)]
    · rintro ⟨h1, h2, h3, h4, h5⟩
      exact ⟨h1, h2, h3, h4, this (by omega)⟩
  · have hoa := fa.2.2.2.2.2.2.2.2.2.2 h0
    rw [if_neg h0, if_pos (by omega), if_neg h0, w64_id (by unfold In64; omega)]
    constructor
    · rintro ⟨h1, h2, h3, h4, h5⟩
      refine ⟨h1, h2, h3, h4, ?_⟩
      rw [if_neg (by omega)]
      omega
    · rintro ⟨h1, h2, h3, h4, h5⟩
      rw [if_neg (by omega)] at h5
      exact ⟨h1, h2, h3, h4, by omega⟩
theorem joins_goes {a b : Ar} (h : goesA a b = true) : joinsA a b = true ∧ formed ⟨a.s, b.e, a.p, a.sh, a.b, a.o⟩ = true ∧ joinA a b = ⟨a.s, b.e, a.p, a.sh, a.b, a.o⟩ := by
  obtain ⟨h1, h2, h3, h4, h5, h6, h7⟩ := (goes_iff a b).1 h
  have fa := (formed_iff a).1 h1
  have fb := (formed_iff b).1 h2
  have hf : formed ⟨a.s, b.e, a.p, a.sh, a.b, a.o⟩ = true := by
    rw [formed_iff]
    simp only
    refine ⟨fa.1, fb.2.1, fa.2.2.1, fb.2.2.2.1, by omega, fa.2.2.2.2.2.1, fa.2.2.2.2.2.2.1, fa.2.2.2.2.2.2.2.1, fa.2.2.2.2.2.2.2.2.1, fa.2.2.2.2.2.2.2.2.2.1, fun hb => ?_⟩
    have g1 := fa.2.2.2.2.2.2.2.2.2.2 hb
    have g2 := fb.2.2.2.2.2.2.2.2.2.2 (by omega)
    rw [if_neg hb] at h7
    omega
  have hj : joinsA a b = true := by
    unfold joinsA
    rw [h, hf]
    rfl
  exact ⟨hj, hf, by unfold joinA; rw [if_pos hj]⟩
theorem joins_eq (a b : Ar) : joinsA a b = goesA a b := by
  cases h : goesA a b with
  | true => exact (joins_goes h).1
  | false => unfold joinsA; rw [h]; rfl
theorem join_no {a b : Ar} (h : goesA a b = false) : joinA a b = noAr := by
  unfold joinA
  rw [if_neg (by rw [joins_eq, h]; simp)]
/-- The join's pages are both's. -/
theorem join_pages {a b : Ar} (h : goesA a b = true) {q : Int} (h1 : a.s / 4096 ≤ q) (h2 : q < b.e / 4096) :
    refHas (joinA a b) q = true ∧ (refHas a q = true → refAttr (joinA a b) q = refAttr a q) ∧ (refHas b q = true → refAttr (joinA a b) q = refAttr b q) := by
  obtain ⟨_, hf, hj⟩ := joins_goes h
  obtain ⟨g1, g2, g3, g4, g5, g6, g7⟩ := (goes_iff a b).1 h
  rw [hj]
  have fa := (formed_iff a).1 g1
  have fb := (formed_iff b).1 g2
  obtain ⟨r1, r2⟩ := refAttr_in hf (q := q) h1 h2
  refine ⟨r1, fun ha => ?_, fun hb => ?_⟩
  · obtain ⟨q1, q2⟩ := (refHas_iff g1 q).1 ha
    rw [r2, (refAttr_in g1 q1 q2).2]
  · obtain ⟨q1, q2⟩ := (refHas_iff g2 q).1 hb
    rw [r2, (refAttr_in g2 q1 q2).2]
    simp only [g4, g5, g6, At.mk.injEq, true_and]
    rw [g7]
    by_cases hb0 : b.b = 0
    · rw [if_pos hb0, if_pos hb0]
    · rw [if_neg hb0, if_neg hb0, if_neg (by omega)]
      omega
def pG (a : Ar) (i : Nat) : Int := a.s / 4096 + i
theorem goes_loop {a b : Ar} (h : goesA a b = true) (i : Nat) (hi : pG a i < w64 (Int.tdiv b.e 4096)) : w64 (pG a i + 1) = pG a (i + 1) ∧ i < 512 ∧ a.s / 4096 ≤ pG a i ∧ pG a i < b.e / 4096 := by
  obtain ⟨g1, g2, g3, _⟩ := (goes_iff a b).1 h
  have fa := (formed_iff a).1 g1
  have fb := (formed_iff b).1 g2
  rw [w_div (by omega)] at hi
  unfold pG at hi ⊢
  rw [w64_id (by unfold In64; omega)]
  omega
theorem refAttr_eta (a : Ar) (q : Int) : (⟨(refAttr a q).p, (refAttr a q).sh, (refAttr a q).b, (refAttr a q).o⟩ : At) = refAttr a q := by generalize refAttr a q = z; rfl
theorem joinA_eta (a b : Ar) : (⟨(joinA a b).s, (joinA a b).e, (joinA a b).p, (joinA a b).sh, (joinA a b).b, (joinA a b).o⟩ : Ar) = joinA a b := by generalize joinA a b = z; rfl
theorem partA_eta (a : Ar) (lo hi : Int) : (⟨(partA a lo hi).s, (partA a lo hi).e, (partA a lo hi).p, (partA a lo hi).sh, (partA a lo hi).b, (partA a lo hi).o⟩ : Ar) = partA a lo hi := by generalize partA a lo hi = z; rfl
theorem goes_init {a b : Ar} (h : goesA a b = true) : IntKind.i64.wrap (Int.tdiv a.s 4096) = pG a 0 := by
  obtain ⟨g1, _⟩ := (goes_iff a b).1 h
  have fa := (formed_iff a).1 g1
  have := w_div (n := a.s) (by omega)
  unfold pG
  unfold w64 at this
  omega
end Go.Proofs.Ytbcicjmepojlnaa.Eng
/- Right lists, in plain words, as the program and as the reference have them; no condition. -/
namespace Go.Proofs.Ytbcicjmepojlnaa.Eng
open Go Go.RowKit
set_option autoImplicit false

/-- What is wrong at a list's place. -/
def badAt (l : List Ar) (i : Nat) : Bool := !formed (nthA l i) || (decide (0 < i) && (decide ((nthA l (i - 1)).e > (nthA l i).s) || goesA (nthA l (i - 1)) (nthA l i)))
def rightL (l : List Ar) : Bool := !(List.range l.length).any (badAt l)
theorem right_no {l : List Ar} {i : Nat} (hi : i < l.length) (h : badAt l i = true) : rightL l = false := by
  unfold rightL
  have : (List.range l.length).any (badAt l) = true := List.any_eq_true.2 ⟨i, List.mem_range.2 hi, h⟩
  rw [this]
  rfl
theorem right_yes {l : List Ar} (h : ∀ j : Nat, j < l.length → badAt l j = false) : rightL l = true := by
  unfold rightL
  cases hb : (List.range l.length).any (badAt l) with
  | false => rfl
  | true =>
    obtain ⟨i, hi, h2⟩ := List.any_eq_true.1 hb
    rw [h i (List.mem_range.1 hi)] at h2
    cases h2
theorem bad_next {l : List Ar} {i : Nat} (h : ∀ j : Nat, j < i → badAt l j = false) (hi : badAt l i = false) : ∀ j : Nat, j < i + 1 → badAt l j = false := by
  intro j hj
  by_cases hji : j = i
  · subst hji; exact hi
  · exact h j (by omega)
theorem right_at {l : List Ar} (h : rightL l = true) {i : Nat} (hi : i < l.length) : badAt l i = false := by
  cases hb : badAt l i with
  | false => rfl
  | true => rw [right_no hi hb] at h; cases h
theorem nthA_eta (l : List Ar) (i : Nat) : (⟨(nthA l i).s, (nthA l i).e, (nthA l i).p, (nthA l i).sh, (nthA l i).b, (nthA l i).o⟩ : Ar) = nthA l i := by generalize nthA l i = z; rfl
theorem pos_of {i : Nat} (h : decide ((0 : Int) < (i : Int)) = true) : 0 < i := by have := of_decide_eq_true h; omega
theorem bad_a {l : List Ar} {i : Nat} (h : formed (nthA l i) = false) : badAt l i = true := by unfold badAt; rw [h]; rfl
theorem zero_lt {i : Nat} : decide ((0 : Int) < (i : Int)) = decide (0 < i) := by rw [decide_eq_decide]; omega
theorem bad_b {l : List Ar} {i : Nat} (h0 : decide ((0 : Int) < (i : Int)) = true) (h : decide ((nthA l i).s < (nthA l (i - 1)).e) = true) : badAt l i = true := by
  rw [zero_lt] at h0
  unfold badAt
  rw [h0]
  have h2 : decide ((nthA l (i - 1)).e > (nthA l i).s) = true := h
  rw [h2]
  simp
theorem bad_c {l : List Ar} {i : Nat} (h0 : decide ((0 : Int) < (i : Int)) = true) (h : goesA (nthA l (i - 1)) (nthA l i) = true) : badAt l i = true := by
  rw [zero_lt] at h0
  unfold badAt
  rw [h0, h]
  simp
theorem good_d {l : List Ar} {i : Nat} (hf : formed (nthA l i) = true) (h : decide ((nthA l i).s < (nthA l (i - 1)).e) = false) (hg : goesA (nthA l (i - 1)) (nthA l i) = false) : badAt l i = false := by
  unfold badAt
  have h2 : decide ((nthA l (i - 1)).e > (nthA l i).s) = false := h
  rw [hf, h2, hg]
  simp
theorem good_e {l : List Ar} {i : Nat} (hf : formed (nthA l i) = true) (h0 : decide ((0 : Int) < (i : Int)) = false) : badAt l i = false := by
  rw [zero_lt] at h0
  unfold badAt
  rw [hf, h0]
  rfl
theorem pos_ne {i : Nat} (h : ((i : Int) == 0) = false) : 0 < i := by
  have : ¬ (i : Int) = 0 := by simpa using h
  omega
theorem pos_ne' {i : Nat} (h : ((i : Int) == 0) = false) : decide ((0 : Int) < (i : Int)) = true := by
  have := pos_ne h
  simp
  omega
theorem good_z {l : List Ar} {i : Nat} (hf : formed (nthA l i) = true) (h : ((i : Int) == 0) = true) : badAt l i = false := good_e hf (by
  have : (i : Int) = 0 := by simpa using h
  rw [this]
  rfl)
theorem pre_formed {l : List Ar} {i : Nat} (h : ∀ j : Nat, j < i → badAt l j = false) (h0 : 0 < i) : formed (nthA l (i - 1)) = true := by
  have := h (i - 1) (by omega)
  cases hf : formed (nthA l (i - 1)) with
  | true => rfl
  | false => rw [bad_a hf] at this; cases this
/-- The reference's test of two neighbours. -/
theorem goes_eq {a b : Ar} (ha : formed a = true) (hb : formed b = true) : goesA a b = ((a.e == b.s) && afterA (refAttr a (IntKind.i64.wrap (IntKind.i64.wrap (Int.tdiv a.e 4096) - 1))) (refAttr b (IntKind.i64.wrap (Int.tdiv b.s 4096)))) := by
  have := goes_ref a b
  rw [ha, hb] at this
  simpa using this
/-- At a place's number, and at the one ahead of it. -/
theorem la_ix {l : List Ar} {i : Nat} (h : i < l.length) : 0 < 6 ∧ 0 ≤ ((i : Nat) : Int) ∧ ((i : Nat) : Int) < (l.length : Int) := by omega
theorem la_take {l : List Ar} {i : Nat} (h : i < l.length) : takeN (encL l) (((i : Nat) : Int).toNat * 6) 6 = some [.v (.int .i64 (nthA l i).s), .v (.int .i64 (nthA l i).e), .v (.int .i64 (nthA l i).p), .v (.bool (nthA l i).sh), .v (.int .i64 (nthA l i).b), .v (.int .i64 (nthA l i).o)] := by
  rw [Int.toNat_natCast]
  exact area_take h
theorem la_s {l : List Ar} {i : Nat} (h : i < l.length) : (encL l)[((i : Nat) : Int).toNat * 6 + 0]? = some (.v (.int .i64 (nthA l i).s)) := by
  rw [Int.toNat_natCast]
  exact area_s h
theorem la_e {l : List Ar} {i : Nat} (h : i < l.length) : (encL l)[((i : Nat) : Int).toNat * 6 + 1]? = some (.v (.int .i64 (nthA l i).e)) := by
  rw [Int.toNat_natCast]
  exact area_e h
theorem pre_ix {l : List Ar} {i : Nat} (h : i < l.length) (hl : l.length ≤ 1000000) (h0 : 0 < i) : IntKind.i64.wrap ((i : Int) - 1) = ((i - 1 : Nat) : Int) ∧ i - 1 < l.length := by
  have : w64 ((i : Int) - 1) = (i : Int) - 1 := w64_id (by unfold In64; omega)
  unfold w64 at this
  rw [this]
  omega
theorem lp_ix {l : List Ar} {i : Nat} (h : i < l.length) (hl : l.length ≤ 1000000) (h0 : 0 < i) : 0 < 6 ∧ 0 ≤ IntKind.i64.wrap ((i : Int) - 1) ∧ IntKind.i64.wrap ((i : Int) - 1) < (l.length : Int) := by
  have := pre_ix h hl h0
  rw [this.1]
  omega
theorem lp_e {l : List Ar} {i : Nat} (h : i < l.length) (hl : l.length ≤ 1000000) (h0 : 0 < i) : (encL l)[(IntKind.i64.wrap ((i : Int) - 1)).toNat * 6 + 1]? = some (.v (.int .i64 (nthA l (i - 1)).e)) := by
  have := pre_ix h hl h0
  rw [this.1]
  exact la_e this.2
theorem lp_take {l : List Ar} {i : Nat} (h : i < l.length) (hl : l.length ≤ 1000000) (h0 : 0 < i) : takeN (encL l) ((IntKind.i64.wrap ((i : Int) - 1)).toNat * 6) 6 = some [.v (.int .i64 (nthA l (i - 1)).s), .v (.int .i64 (nthA l (i - 1)).e), .v (.int .i64 (nthA l (i - 1)).p), .v (.bool (nthA l (i - 1)).sh), .v (.int .i64 (nthA l (i - 1)).b), .v (.int .i64 (nthA l (i - 1)).o)] := by
  have := pre_ix h hl h0
  rw [this.1]
  exact la_take this.2
theorem nat_succ {i : Nat} (h : i < 1000000) : IntKind.i64.wrap ((i : Int) + 1) = ((i + 1 : Nat) : Int) := by
  have : w64 ((i : Int) + 1) = (i : Int) + 1 := w64_id (by unfold In64; omega)
  unfold w64 at this
  rw [this]
  rfl
/-- The same areas, one by one. -/
def sameL (l k : List Ar) : Bool := (l.length == k.length) && (List.range l.length).all fun i => eqA (nthA l i) (nthA k i)
theorem sameL_iff (l k : List Ar) : sameL l k = true ↔ l = k := by
  unfold sameL
  rw [Bool.and_eq_true, beq_iff_eq, List.all_eq_true]
  constructor
  · rintro ⟨h1, h2⟩
    apply List.ext_getElem?
    intro i
    by_cases hi : i < l.length
    · rw [nthA_get hi, nthA_get (by omega), (eqA_iff _ _).1 (h2 i (List.mem_range.2 hi))]
    · rw [List.getElem?_eq_none (by omega), List.getElem?_eq_none (by omega)]
  · rintro rfl
    exact ⟨rfl, fun i _ => (eqA_iff _ _).2 rfl⟩
theorem same_no {l k : List Ar} {i : Nat} (hi : i < l.length) (h : eqA (nthA l i) (nthA k i) = false) : sameL l k = false := by
  cases hs : sameL l k with
  | false => rfl
  | true =>
    have := (sameL_iff l k).1 hs
    subst this
    rw [(eqA_iff _ _).2 rfl] at h
    cases h
theorem same_len {l k : List Ar} (h : ¬ (l.length : Int) = (k.length : Int)) : sameL l k = false := by
  unfold sameL
  rw [show (l.length == k.length) = false by rw [beq_eq_false_iff_ne]; omega]
  rfl
theorem same_yes {l k : List Ar} (hl : (l.length : Int) = (k.length : Int)) (h : ∀ j : Nat, j < l.length → eqA (nthA l j) (nthA k j) = true) : sameL l k = true := by
  unfold sameL
  rw [Bool.and_eq_true, beq_iff_eq, List.all_eq_true]
  exact ⟨by omega, fun i hi => h i (List.mem_range.1 hi)⟩
theorem same_next {l k : List Ar} {i : Nat} (h : ∀ j : Nat, j < i → eqA (nthA l j) (nthA k j) = true) (hi : eqA (nthA l i) (nthA k i) = true) : ∀ j : Nat, j < i + 1 → eqA (nthA l j) (nthA k j) = true := by
  intro j hj
  by_cases hji : j = i
  · subst hji; exact hi
  · exact h j (by omega)
/-- The first area that has an address. -/
def idxL (l : List Ar) (x : Int) : Nat := ((List.range l.length).find? fun i => hasA (nthA l i) x).getD l.length
def idxI (l : List Ar) (x : Int) : Int := if decide (idxL l x < l.length) = true then (idxL l x : Int) else -1
def foundL (l : List Ar) (x : Int) : Bool := decide (idxI l x ≥ 0) && rightL l
def findL (l : List Ar) (x : Int) : Ar := if foundL l x = true then nthA l (idxL l x) else noAr
theorem idx_yes {l : List Ar} {x : Int} {i : Nat} (hi : i < l.length) (h : hasA (nthA l i) x = true) (hn : ∀ j : Nat, j < i → hasA (nthA l j) x = false) : idxI l x = (i : Int) := by
  have : (List.range l.length).find? (fun i => hasA (nthA l i) x) = some i := by
    rw [List.find?_range_eq_some]
    exact ⟨h, List.mem_range.2 hi, fun j hj => by rw [hn j hj]; rfl⟩
  unfold idxI idxL
  rw [this]
  simp [hi]
theorem idx_no {l : List Ar} {x : Int} (hn : ∀ j : Nat, j < l.length → hasA (nthA l j) x = false) : idxI l x = -1 := by
  have : (List.range l.length).find? (fun i => hasA (nthA l i) x) = none := by
    rw [List.find?_eq_none]
    intro i hi
    rw [hn i (List.mem_range.1 hi)]
    simp
  unfold idxI idxL
  rw [this]
  simp
theorem idx_lt {l : List Ar} {x : Int} (h : decide (0 ≤ idxI l x) = true) : idxL l x < l.length ∧ idxI l x = (idxL l x : Int) := by
  have h' := of_decide_eq_true h
  unfold idxI at h' ⊢
  split at h'
  · rename_i hc
    rw [if_pos hc]
    exact ⟨of_decide_eq_true hc, rfl⟩
  · omega
theorem has_next {l : List Ar} {x : Int} {i : Nat} (h : ∀ j : Nat, j < i → hasA (nthA l j) x = false) (hi : hasA (nthA l i) x = false) : ∀ j : Nat, j < i + 1 → hasA (nthA l j) x = false := by
  intro j hj
  by_cases hji : j = i
  · subst hji; exact hi
  · exact h j (by omega)
end Go.Proofs.Ytbcicjmepojlnaa.Eng
