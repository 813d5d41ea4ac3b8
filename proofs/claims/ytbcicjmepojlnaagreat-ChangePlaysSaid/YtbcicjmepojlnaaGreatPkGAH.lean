/- Texts of this work, laid together: symbolic execution over the model, contracts of the program's functions, what they come to; conditions: as each says. -/
import Derived.Test.YtbcicjmepojlnaaGreatPkGAG
/- What a text's twin predicate says, the text does; no condition. -/
namespace Go.Proofs.YtbcicjmepojlnaaGreat.Eng
open Go Go.RowKit
set_option autoImplicit false
set_option linter.unusedSimpArgs false
set_option linter.unusedVariables false
variable {P : Program} {n : Nat} {w0 : World} {M : Nat → Prop}
theorem vcE_sound {F : TT} (hF : TTok P F) (l : List (ESpec P)) (hm : P.follows .mixedOrders = true) (tabs : Tabs) : ∀ (c : Code), tabsOk tabs c = true → ∀ (Q : QT) (env : Env) (H : Heap), vcE kid P F (lookT l) (lookE l) n tabs c Q env H → Does P n c Q env H
  | .skip, _, Q, env, H, h => fun w0 M a w hE hH => wp_skip ⟨env, H, h, hE, hH⟩
  | .region id ops draw, ht, Q, env, H, h => fun w0 M a w hE hH => by
    simp only [tabsOk] at ht
    cases draw with
    | true =>
      rw [if_pos rfl] at ht
      simp only [vcE] at h
      exact regionD_sound (ctxOf F hF (baseOf l)) hm (tabOf tabs id) ht hE hH (vcDE_eq F hF l n ops _ _ _ _ _ _ h) fun env' H' a' w' hQ hE' hH' => ⟨env', H', hQ, hE', hH'⟩
    | false =>
      simp only [vcE] at h
      exact region_sound (ctxOf F hF (baseOf l)) hE hH (vcOpsE_eq F hF l n ops _ _ _ _ h) fun env' H' a' w' hQ hE' hH' => ⟨env', H', hQ, hE', hH'⟩
  | .seq x y, ht, Q, env, H, h => fun w0 M a w hE hH => by
    simp only [tabsOk, Bool.and_eq_true] at ht
    refine wp_seq (wp_mono (vcE_sound hF l hm tabs x ht.1 _ env H h w0 M a w hE hH) ?_)
    intro e a' w' hq
    cases e with
    | normal =>
      obtain ⟨env', H', hv, hE', hH'⟩ := hq
      exact vcE_sound hF l hm tabs y ht.2 Q env' H' hv w0 M a' w' hE' hH'
    | ret => exact hq
    | exit id => exact hq
    | _ => exact hq
  | .cond c t e, ht, Q, env, H, h => fun w0 M a w hE hH => by
    simp only [tabsOk, Bool.and_eq_true] at ht
    simp only [vcE] at h
    split at h
    · rename_i b hc
      refine wp_cond_split (eval_v hE hc) (fun hb => ?_) (fun hb => ?_)
      · subst hb
        exact vcE_sound hF l hm tabs t ht.1 Q env H h w0 M a w hE hH
      · subst hb
        exact vcE_sound hF l hm tabs e ht.2 Q env H h w0 M a w hE hH
    · exact h.elim
  | .block id c, ht, Q, env, H, h => fun w0 M a w hE hH => by
    refine wp_block (wp_mono (vcE_sound hF l hm tabs c ht _ env H h w0 M a w hE hH) ?_)
    intro e a' w' hq
    cases e with
    | exit id' =>
      obtain ⟨env', H', hv, hE', hH'⟩ := hq
      simp only [inBlk] at hv
      simp only [Exit.inBlock]
      split
      · rename_i hid
        rw [if_pos hid] at hv
        exact ⟨env', H', hv, hE', hH'⟩
      · rename_i hid
        rw [if_neg hid] at hv
        exact ⟨env', H', hv, hE', hH'⟩
    | normal => exact hq
    | ret => exact hq
    | _ => exact hq
  | .loop c, ht, Q, env, H, h => by
    simp only [vcE] at h
    exact h.h ht
  | .rangeFunc f ps as b, ht, Q, env, H, h => by
    simp only [vcE] at h
    exact h.h ht
  | .exit id, _, Q, env, H, h => fun w0 M a w hE hH => wp_exit ⟨env, H, h, hE, hH⟩
  | .ret, _, Q, env, H, h => fun w0 M a w hE hH => wp_ret ⟨env, H, h, hE, hH⟩
  | .scope _, _, _, _, _, h => h.elim
  | .label _, _, _, _, _, h => h.elim
  | .goto _, _, _, _, _, h => h.elim
  | .refuse _, _, _, _, _, h => h.elim
theorem calls_of_does {f : FuncId} {fn : Func} {c : Code} (hf : P.funcs[f]? = some fn) (hb : fn.body = some c) (vs : Array Value) (L : List (Nat × SV)) (H : Heap) (w : World)
    (hn : fn.ntmps = n) (rs : List ResultVar) (hrs : fn.results.toList = rs) (hvs : vs.size ≤ n) (hL : ∀ p ∈ L, vs[p.1]? = some p.2.den) (hH : HSat w M H w) (R : SV → Heap → Prop) (h : Does P n c (retQ P rs R) (envOf L) H) :
    Calls P f vs w fun e w' => ∃ v H', e = .returned v.den ∧ R v H' ∧ HSat w M H' w' := by
  subst hn hrs
  refine calls_of_wp hf hb (wp_mono (h w M _ w ⟨by simp; omega, fun t htk => ?_, rfl⟩ hH) ?_)
  · obtain ⟨v, hv, e⟩ := envOf_some L t htk
    have := hL _ hv
    rw [e]
    have hlt : t < vs.size := (Array.getElem?_eq_some_iff.1 this).1
    rw [Array.getElem?_append_left hlt]
    exact this
  · intro e a' w' hq
    cases e with
    | normal =>
      obtain ⟨env', H', hr, hE', hH'⟩ := hq
      obtain ⟨v, hR, hrun⟩ := results_sound hE' hH' R hr
      exact ⟨hE'.defers, v.den, hrun, v, H', rfl, hR, hH'⟩
    | ret =>
      obtain ⟨env', H', hr, hE', hH'⟩ := hq
      obtain ⟨v, hR, hrun⟩ := results_sound hE' hH' R hr
      exact ⟨hE'.defers, v.den, hrun, v, H', rfl, hR, hH'⟩
    | exit id =>
      obtain ⟨env', H', hr, _, _⟩ := hq
      exact hr.elim
    | goto l => exact hq.elim
    | panic ch => exact hq.elim
    | outgrown => exact hq.elim
structure Again {σ : Type} (L : σ → List (Nat × SV)) (E : σ → List (Nat × Ent)) (μ : σ → Nat) (s : σ) (env : Env) (H : Heap) : Prop where
  h : ∃ s' ρ, μ s' < μ s ∧ ρ.Nodup ∧ FitsE env (L s') ∧ FitsH H ρ (E s')
def resTE (F : TT) : List ResultVar → Env → Heap → (List SV → Prop) → Prop
  | [], env, H, K => K []
  | .tmp t :: r, env, H, K => match env t with
    | .tup _ => False
    | .c .any => False
    | x => resTE F r env H fun l => K (x :: l)
  | .cell t ty :: r, env, H, K => match env t with
    | .c (.loc id b off) => match H id with
      | some (.blk b' _ cs) => b = b' ∧ match look F.sz ty with
        | some (true, m) => off + m ≤ cs.length ∧ resTE F r env H fun l => K (.agg ((cs.drop off).take m) :: l)
        | some (false, _) => match cs[off]? with
          | some x => resTE F r env H fun l => K (.c x :: l)
          | none => False
        | none => False
      | _ => False
    | _ => False
theorem resTE_sound {F : TT} (hF : TTok P F) (env : Env) (H : Heap) : ∀ (rs : List ResultVar) (K : List SV → Prop), resTE F rs env H K → resT P rs env H K
  | [], K, h => h
  | .tmp t :: r, K, h => by
    simp only [resTE] at h
    simp only [resT]
    split at h
    · exact h.elim
    · exact h.elim
    · rename_i h1 h2
      split
      · rename_i l he; exact h1 l he
      · rename_i he; exact h2 he
      · exact resTE_sound hF env H r _ h
  | .cell t ty :: r, K, h => by
    simp only [resTE] at h
    simp only [resT]
    split at h
    · rename_i id b off he
      split at h
      · rename_i b' t' cs hH
        obtain ⟨h1, h⟩ := h
        simp only [he, hH]
        refine ⟨h1, ?_⟩
        split at h
        · rename_i m hm
          simp only [hF.sz_ hm]
          exact ⟨h.1, resTE_sound hF env H r _ h.2⟩
        · rename_i m hm
          simp only [hF.sz_ hm]
          split at h
          · rename_i x hx
            exact ⟨x, hx, resTE_sound hF env H r _ h⟩
          · exact h.elim
        · exact h.elim
      · exact h.elim
    · exact h.elim
def retQE (F : TT) (rs : List ResultVar) (R : SV → Heap → Prop) : QT
  | .exit _, _, _ => False
  | _, env, H => resTE F rs env H fun l => R (single l) H
theorem retQE_sound {F : TT} (hF : TTok P F) (rs : List ResultVar) (R : SV → Heap → Prop) (x : VX) (env : Env) (H : Heap) (h : retQE F rs R x env H) : retQ P rs R x env H := by
  cases x with
  | normal => exact resTE_sound hF env H rs _ h
  | ret => exact resTE_sound hF env H rs _ h
  | exit id => exact h.elim
theorem Does.mono {c : Code} {Q Q' : QT} {env : Env} {H : Heap} (h : Does P n c Q env H) (hQ : ∀ x env H, Q x env H → Q' x env H) : Does P n c Q' env H := fun w0 M a w hE hH => by
  refine wp_mono (h w0 M a w hE hH) ?_
  intro e a' w' hq
  cases e with
  | normal => obtain ⟨env', H', hv, h1, h2⟩ := hq; exact ⟨env', H', hQ _ _ _ hv, h1, h2⟩
  | ret => obtain ⟨env', H', hv, h1, h2⟩ := hq; exact ⟨env', H', hQ _ _ _ hv, h1, h2⟩
  | exit id => obtain ⟨env', H', hv, h1, h2⟩ := hq; exact ⟨env', H', hQ _ _ _ hv, h1, h2⟩
  | _ => exact hq
theorem callsE {F : TT} (hF : TTok P F) (l : List (ESpec P)) (hm : P.follows .mixedOrders = true) {f : FuncId} {fn : Func} {c : Code} (tabs : Tabs) (hf : P.funcs[f]? = some fn) (hb : fn.body = some c) (ht : tabsQ tabs c = true) (vs : Array Value) (L : List (Nat × SV)) (H : Heap) (w : World)
    (hn : fn.ntmps = n) (rs : List ResultVar) (hrs : fn.results.toList = rs) (hvs : vs.size ≤ n) (hL : ∀ p ∈ L, vs[p.1]? = some p.2.den) (hH : HSat w M H w) (R : SV → Heap → Prop) {κ : Kp} (hκ : κ = kid) (h : vcE κ P F (lookT l) (lookE l) n tabs c (retQE F rs R) (envOf L) H) :
    Calls P f vs w fun e w' => ∃ v H', e = .returned v.den ∧ R v H' ∧ HSat w M H' w' := by
  subst hκ
  exact calls_of_does hf hb vs L H w hn rs hrs hvs hL hH R ((vcE_sound hF l hm tabs c (tabsQ_ok tabs c ht) _ _ _ h).mono fun x env H h => retQE_sound hF rs R x env H h)
theorem tst_mk {b : Bool} {p q : Prop} : (b = true → p) → (b = false → q) → (match b with | true => p | false => q) := by
  intro h1 h2
  cases b
  · exact h2 rfl
  · exact h1 rfl
structure Is (r : Value) (v : SV) : Prop where
  h : v.den = r
theorem pureE {F : TT} (hF : TTok P F) (l : List (ESpec P)) (hm : P.follows .mixedOrders = true) {f : FuncId} {fn : Func} {c : Code} (tabs : Tabs) (hf : P.funcs[f]? = some fn) (hb : fn.body = some c) (ht : tabsQ tabs c = true) (vs : Array Value) (L : List (Nat × SV)) (r : Value) (w : World) (n : Nat)
    (hn : fn.ntmps = n) (rs : List ResultVar) (hrs : fn.results.toList = rs) (hvs : vs.size ≤ n) (hL : ∀ p ∈ L, vs[p.1]? = some p.2.den) {κ : Kp} (hκ : κ = kid) (h : vcE κ P F (lookT l) (lookE l) n tabs c (retQE F rs fun v _ => Is (κ _ r) v) (envOf L) H0) :
    Calls P f vs w fun e w' => e = .returned r ∧ Below w.heap.size w w' :=
  (callsE hF l hm tabs hf hb ht vs L H0 w hn rs hrs hvs hL (HSat.start w) _ hκ h).mono fun e w' ⟨v, H', he, hr, hH⟩ => ⟨by subst hκ; rw [he, hr.h]; rfl, hH.isBelow⟩
def pureES {f : FuncId} (hB : Bodied P f) (F : Kp → List SV → Heap → Option (Prop × SV)) {κ : Kp} (hκ : κ = kid)
    (h : ∀ args H s v (w0 : World) M (w : World) (H' : Heap), F kid args H = some (s, v) → s → (∀ i e, H i = some e → H' i = some e) → HSat w0 M H' w → Calls P f (args.map SV.den).toArray w fun e w' => e = .returned v.den ∧ Below w.heap.size w w') : ESpec P where
  f := f
  wr := false
  S := pureSpec (F kid)
  ok := pure_ok hB (F kid) h
  T := fun args H _ K => match F κ args H with
    | some (s, v) => Side s ∧ K v []
    | none => False
  hT := by
    subst hκ
    intro args H d K
    unfold pureSpec
    cases F kid args H with
    | none => simp
    | some p => obtain ⟨s, v⟩ := p; simp [Side_eq]
end Go.Proofs.YtbcicjmepojlnaaGreat.Eng
/- Loops whose fixed slots and things are taken over as they lie; a loop's round laid open; no condition. -/
namespace Go.Proofs.YtbcicjmepojlnaaGreat.Eng
open Go Go.RowKit
set_option autoImplicit false
set_option linter.unusedSimpArgs false
set_option linter.unusedVariables false
variable {P : Program} {n : Nat} {w0 : World} {M : Nat → Prop}
def keepE (env : Env) : List Nat → List (Nat × SV) → List (Nat × SV)
  | [], l => l
  | t :: r, l => (t, env t) :: keepE env r l
end Go.Proofs.YtbcicjmepojlnaaGreat.Eng
/- Calls with what lies behind their arguments; contracts that are told by what is to be shown behind a call; rows of like things; no condition. -/
namespace Go.Proofs.YtbcicjmepojlnaaGreat.Eng
open Go Go.RowKit
set_option autoImplicit false
set_option linter.unusedSimpArgs false
set_option linter.unusedVariables false
variable {P : Program} {w0 w w' : World} {M : Nat → Prop}
/-! ### One thing as another one -/
structure Ent.gives (e e' : Ent) : Prop where
  holds : ∀ w, e.holds w → e'.holds w
  block : ∀ w, e.holds w → ∀ g, e'.block = some g → e.block = some g
  muts : e'.mut = true → e.mut = true
theorem gives_refl (e : Ent) : e.gives e := ⟨fun _ h => h, fun _ _ _ h => h, fun h => h⟩
theorem gives_blk {b t : Nat} {cs cs' : List C} (h : cs.map C.den = cs'.map C.den) : (Ent.blk b t cs).gives (.blk b t cs') :=
  ⟨fun w hw => by show w.heap[b]? = _; rw [← h]; exact hw, fun _ _ _ hg => hg, fun h => h⟩
theorem gives_row_rd {A : Option Addr} {c t z n : Nat} {xs : List C} : (Ent.row A c t z n xs).gives (.rd A z n xs) := by
  have pos : ∀ w, (Ent.row A c t z n xs).holds w → xs ≠ [] → 0 < c := by
    intro w hw hx
    have h1 := hw.1
    have h2 := hw.2.1
    have h3 : 0 < xs.length := List.length_pos_iff.2 hx
    rcases Nat.eq_zero_or_pos n with h0 | h0
    · rw [h0] at h1; omega
    · omega
  refine ⟨fun w hw => ⟨hw.1, fun hx => ?_⟩, fun w hw g hg => ?_, fun h => by cases h⟩
  · obtain ⟨g, cur, h1, h2, _⟩ := hw.2.2 (pos w hw hx)
    have hc := cells_row hw hx
    refine ⟨⟨g, 0, none⟩, h1, ?_, ?_⟩
    · exact (Array.getElem?_eq_some_iff.1 h2).1
    · rw [h1] at hc; exact hc
  · simp only [Ent.block] at hg ⊢
    split at hg
    · cases hg
    · rename_i hx
      have := pos w hw hx
      rw [if_neg (by omega)]
      exact hg
/-! ### Into a call and out of it -/
def Gives (H : Heap) : List Nat → List (Nat × Ent) → Prop
  | _, [] => True
  | s :: ρ, (_, e) :: r => (∃ e', H s = some e' ∧ e'.gives e) ∧ Gives H ρ r
  | [], _ :: _ => False
theorem Gives.get {H : Heap} : ∀ {ρ : List Nat} {E : List (Nat × Ent)}, Gives H ρ E → ∀ (k t : Nat) (e : Ent), E[k]? = some (t, e) → ∃ s e', ρ[k]? = some s ∧ H s = some e' ∧ e'.gives e
  | _, [], _, k, t, e, h => by simp at h
  | s :: ρ, (t', e1) :: r, h, 0, t, e, hk => by
    simp at hk
    obtain ⟨_, rfl⟩ := hk
    obtain ⟨e', h1, h2⟩ := h.1
    exact ⟨s, e', rfl, h1, h2⟩
  | s :: ρ, (t', e1) :: r, h, k + 1, t, e, hk => by
    obtain ⟨s', e', h1, h2, h3⟩ := Gives.get h.2 k t e (by simpa using hk)
    exact ⟨s', e', by simpa using h1, h2, h3⟩
def mutE (E : List (Nat × Ent)) (g : Nat) : Prop := ∃ (k t : Nat) (e : Ent), E[k]? = some (t, e) ∧ e.mut = true ∧ e.block = some g
theorem HSat.enter {H : Heap} {ρ : List Nat} {E : List (Nat × Ent)} (h : HSat w0 M H w) (hρ : ρ.Nodup) (hG : Gives H ρ E) : HSat w (mutE E) (heapOf E) w := by
  have key : ∀ t e, heapOf E t = some e → ∃ (k s : Nat) (e' : Ent), E[k]? = some (t, e) ∧ ρ[k]? = some s ∧ H s = some e' ∧ e'.gives e := by
    intro t e he
    obtain ⟨k, hk⟩ := heapOf_some E t e he
    obtain ⟨s, e', h1, h2, h3⟩ := hG.get k t e hk
    exact ⟨k, s, e', hk, h1, h2, h3⟩
  refine ⟨Fr.refl w _, fun i e hi => ?_, fun i e hi g hg => ?_, fun i e hi hm g hg => ?_, fun i j ei ej hij hi hj hm g hgi hgj => ?_⟩
  · obtain ⟨k, s, e', _, _, hs, hg⟩ := key i e hi
    exact hg.holds w (h.holds s e' hs)
  · obtain ⟨k, s, e', _, _, hs, hv⟩ := key i e hi
    exact h.lt s e' hs g (hv.block w (h.holds s e' hs) g hg)
  · obtain ⟨k, s, e', hk, _, hs, hv⟩ := key i e hi
    exact .inr ⟨k, i, e, hk, hm, hg⟩
  · obtain ⟨k, s, ei', hk, hks, hs, hv⟩ := key i ei hi
    obtain ⟨k', s', ej', hk', hks', hs', hv'⟩ := key j ej hj
    refine h.sep s s' ei' ej' ?_ hs hs' (hv.muts hm) g (hv.block w (h.holds s ei' hs) g hgi) (hv'.block w (h.holds s' ej' hs') g hgj)
    rintro rfl
    have := nodup_get hρ hks hks'
    subst this
    rw [hk] at hk'
    injection hk' with e
    exact hij (by injection e)
theorem HSat.leave {H Hc : Heap} {ρ : List Nat} {E : List (Nat × Ent)} (h : HSat w0 M H w) (hρ : ρ.Nodup) (hG : Gives H ρ E) (hc : HSat w (mutE E) Hc w') (u : Upd) (T : List (Nat × Nat))
    (c1 : ∀ p ∈ T, ∃ e e', Hc p.2 = some e ∧ upds H u p.1 = some e' ∧ e.gives e' ∧ e.mut = true)
    (c2 : ∀ i, (∀ p ∈ T, p.1 ≠ i) → upds H u i = none ∨ (upds H u i = H i ∧ ∀ (k t : Nat) (e : Ent), E[k]? = some (t, e) → ρ[k]? = some i → e.mut = false))
    (c3 : (T.map (·.2)).Nodup) : HSat w0 M (upds H u) w' := by
  -- what the call may turn is the caller's own
  have mown : ∀ g, mutE E g → ∃ s e', H s = some e' ∧ e'.mut = true ∧ e'.block = some g ∧ ∃ (k t : Nat) (e : Ent), E[k]? = some (t, e) ∧ ρ[k]? = some s ∧ e.mut = true := by
    rintro g ⟨k, t, e, hk, hm, hg⟩
    obtain ⟨s, e', h1, h2, h3⟩ := hG.get k t e hk
    exact ⟨s, e', h2, h3.muts hm, h3.block w (h.holds s e' h2) g hg, k, t, e, hk, h1, hm⟩
  have two : ∀ i e, upds H u i = some e → (∃ k e1, (i, k) ∈ T ∧ Hc k = some e1 ∧ e1.gives e ∧ e1.mut = true) ∨ (H i = some e ∧ ∀ (k t : Nat) (e : Ent), E[k]? = some (t, e) → ρ[k]? = some i → e.mut = false) := by
    intro i e hi
    by_cases hT : ∃ p ∈ T, p.1 = i
    · obtain ⟨p, hp, rfl⟩ := hT
      obtain ⟨e1, e2, h1, h2, h3, h4⟩ := c1 p hp
      rw [hi] at h2
      injection h2 with h2
      subst h2
      exact .inl ⟨p.2, e1, hp, h1, h3, h4⟩
    · rcases c2 i (fun p hp e => hT ⟨p, hp, e⟩) with h0 | ⟨h1, h2⟩
      · rw [h0] at hi; cases hi
      · exact .inr ⟨h1 ▸ hi, h2⟩
  -- a thing of the caller's that the call was not handed to turn is as it was
  have far : ∀ i e, H i = some e → (∀ (k t : Nat) (e : Ent), E[k]? = some (t, e) → ρ[k]? = some i → e.mut = false) → ∀ g, e.block = some g → ¬ mutE E g := by
    intro i e hi hn g hg hm
    obtain ⟨s, e', hs, hm', hb, k, t, ee, hk, hks, hme⟩ := mown g hm
    by_cases his : s = i
    · subst his
      have := hn k t ee hk hks
      rw [hme] at this
      cases this
    · exact h.sep s i e' e his hs hi hm' g hb hg
  have osz : w.heap.size ≤ w'.heap.size := hc.fr.size
  have own1 : ∀ k e1, Hc k = some e1 → e1.mut = true → ∀ g, e1.block = some g → w.heap.size ≤ g ∨ mutE E g := fun k e1 hk hm g hg => hc.own k e1 hk hm g hg
  refine ⟨⟨hc.fr.os.trans h.fr.os, hc.fr.tape.trans h.fr.tape, hc.fr.output.trans h.fr.output, Nat.le_trans h.fr.size osz, fun k hk hM => ?_⟩, fun i e hi => ?_, fun i e hi g hg => ?_, fun i e hi hm g hg => ?_, fun i j ei ej hij hi hj hm g hgi hgj => ?_⟩
  · have hlt := Nat.lt_of_lt_of_le hk h.fr.size
    rw [hc.fr.block k hlt (fun hm => ?_)]
    · exact h.fr.block k hk hM
    · obtain ⟨s, e', hs, hm', hb, _⟩ := mown k hm
      rcases h.own s e' hs hm' k hb with h1 | h1
      · omega
      · exact hM h1
  · rcases two i e hi with ⟨k, e1, _, h1, h2, _⟩ | ⟨h1, h2⟩
    · exact h2.holds w' (hc.holds k e1 h1)
    · exact Ent.holds_keep (h.holds i e h1) osz fun g hg => hc.fr.block g (h.lt i e h1 g hg) (far i e h1 h2 g hg)
  · rcases two i e hi with ⟨k, e1, _, h1, h2, _⟩ | ⟨h1, h2⟩
    · exact hc.lt k e1 h1 g (h2.block w' (hc.holds k e1 h1) g hg)
    · exact Nat.lt_of_lt_of_le (h.lt i e h1 g hg) osz
  · rcases two i e hi with ⟨k, e1, _, h1, h2, h3⟩ | ⟨h1, h2⟩
    · rcases own1 k e1 h1 h3 g (h2.block w' (hc.holds k e1 h1) g hg) with h4 | h4
      · exact .inl (Nat.le_trans h.fr.size h4)
      · obtain ⟨s, e', hs, hm', hb, _⟩ := mown g h4
        exact h.own s e' hs hm' g hb
    · exact h.own i e h1 hm g hg
  · rcases two i ei hi with ⟨k, e1, hT, h1, h2, h3⟩ | ⟨h1, h2⟩
    · have hg1 := h2.block w' (hc.holds k e1 h1) g hgi
      rcases two j ej hj with ⟨k', e1', hT', h1', h2', h3'⟩ | ⟨h1', h2'⟩
      · refine hc.sep k k' e1 e1' ?_ h1 h1' h3 g hg1 (h2'.block w' (hc.holds k' e1' h1') g hgj)
        rintro rfl
        obtain ⟨a, ha⟩ := List.getElem?_of_mem hT
        obtain ⟨b, hb⟩ := List.getElem?_of_mem hT'
        have e1 : (T.map (·.2))[a]? = some k := by rw [List.getElem?_map, ha]; rfl
        have e2 : (T.map (·.2))[b]? = some k := by rw [List.getElem?_map, hb]; rfl
        have := nodup_get c3 e1 e2
        subst this
        rw [ha] at hb
        injection hb with hb
        injection hb with hb
        exact hij hb
      · rcases own1 k e1 h1 h3 g hg1 with h4 | h4
        · exact absurd (h.lt j ej h1' g hgj) (by omega)
        · exact far j ej h1' h2' g hgj h4
    · rcases two j ej hj with ⟨k', e1', hT', h1', h2', h3'⟩ | ⟨h1', h2'⟩
      · have hg1 := h2'.block w' (hc.holds k' e1' h1') g hgj
        rcases own1 k' e1' h1' h3' g hg1 with h4 | h4
        · exact absurd (h.lt i ei h1 g hgi) (by omega)
        · exact far i ei h1 h2 g hgi h4
      · exact h.sep i j ei ej hij h1 h1' hm g hgi hgj
/-! ### Loops whose things are told anew at the head -/
def simE : Ent → Ent → Prop
  | .blk b t cs, .blk b' t' cs' => b = b' ∧ t = t' ∧ cs.map C.den = cs'.map C.den
  | .row A c t z n xs, .row A' c' t' z' n' xs' => A = A' ∧ c = c' ∧ t = t' ∧ z = z' ∧ n = n' ∧ xs = xs'
  | .rd A z n xs, .rd A' z' n' xs' => A = A' ∧ z = z' ∧ n = n' ∧ xs = xs'
  | _, _ => False
def freeE : Ent → Prop
  | .row A c _ _ n xs => A = none ∧ c = 0 ∧ n = 0 ∧ xs = []
  | _ => False
theorem simE_gives {e e' : Ent} (h : simE e e') : e.gives e' := by
  cases e <;> cases e' <;> first | exact h.elim | skip
  · obtain ⟨rfl, rfl, h⟩ := h; exact gives_blk h
  · obtain ⟨rfl, rfl, rfl, rfl, rfl, rfl⟩ := h; exact gives_refl _
  · obtain ⟨rfl, rfl, rfl, rfl⟩ := h; exact gives_refl _
def FitsG (H : Heap) : List Nat → List (Nat × Ent) → Prop
  | _, [] => True
  | s :: ρ, (_, e) :: r => (match H s with | some e' => simE e' e | none => freeE e) ∧ FitsG H ρ r
  | [], _ :: _ => False
theorem FitsG.get {H : Heap} : ∀ {ρ : List Nat} {E : List (Nat × Ent)}, FitsG H ρ E → ∀ (k t : Nat) (e : Ent), E[k]? = some (t, e) → (∃ s e', ρ[k]? = some s ∧ H s = some e' ∧ e'.gives e) ∨ freeE e
  | _, [], _, k, t, e, h => by simp at h
  | s :: ρ, (t', e1) :: r, h, 0, t, e, hk => by
    simp at hk
    obtain ⟨_, rfl⟩ := hk
    have h1 := h.1
    split at h1
    · rename_i e' he
      exact .inl ⟨s, e', rfl, he, simE_gives h1⟩
    · exact .inr h1
  | s :: ρ, (t', e1) :: r, h, k + 1, t, e, hk => by
    rcases FitsG.get h.2 k t e (by simpa using hk) with ⟨s', e', h1, h2, h3⟩ | h1
    · exact .inl ⟨s', e', by simpa using h1, h2, h3⟩
    · exact .inr h1
theorem free_block {e : Ent} (h : freeE e) : e.block = none ∧ ∀ w, e.holds w := by
  cases e with
  | row A c t z n xs =>
    obtain ⟨rfl, rfl, rfl, rfl⟩ := h
    exact ⟨rfl, fun w => ⟨by simp, Nat.le_refl _, fun h => absurd h (Nat.lt_irrefl 0)⟩⟩
  | _ => exact h.elim
theorem HSat.fitsG {H : Heap} {ρ : List Nat} {E : List (Nat × Ent)} (h : HSat w0 M H w) (hρ : ρ.Nodup) (hG : FitsG H ρ E) : HSat w0 M (heapOf E) w := by
  have key : ∀ t e, heapOf E t = some e → (∃ (k s : Nat) (e' : Ent), E[k]? = some (t, e) ∧ ρ[k]? = some s ∧ H s = some e' ∧ e'.gives e) ∨ freeE e := by
    intro t e he
    obtain ⟨k, hk⟩ := heapOf_some E t e he
    rcases hG.get k t e hk with ⟨s, e', h1, h2, h3⟩ | h1
    · exact .inl ⟨k, s, e', hk, h1, h2, h3⟩
    · exact .inr h1
  refine ⟨h.fr, fun i e hi => ?_, fun i e hi g hg => ?_, fun i e hi hm g hg => ?_, fun i j ei ej hij hi hj hm g hgi hgj => ?_⟩
  · rcases key i e hi with ⟨k, s, e', _, _, hs, hv⟩ | hf
    · exact hv.holds w (h.holds s e' hs)
    · exact (free_block hf).2 w
  · rcases key i e hi with ⟨k, s, e', _, _, hs, hv⟩ | hf
    · exact h.lt s e' hs g (hv.block w (h.holds s e' hs) g hg)
    · rw [(free_block hf).1] at hg; cases hg
  · rcases key i e hi with ⟨k, s, e', _, _, hs, hv⟩ | hf
    · exact h.own s e' hs (hv.muts hm) g (hv.block w (h.holds s e' hs) g hg)
    · rw [(free_block hf).1] at hg; cases hg
  · rcases key i ei hi with ⟨k, s, ei', hk, hks, hs, hv⟩ | hf
    · rcases key j ej hj with ⟨k', s', ej', hk', hks', hs', hv'⟩ | hf'
      · refine h.sep s s' ei' ej' ?_ hs hs' (hv.muts hm) g (hv.block w (h.holds s ei' hs) g hgi) (hv'.block w (h.holds s' ej' hs') g hgj)
        rintro rfl
        have := nodup_get hρ hks hks'
        subst this
        rw [hk] at hk'
        injection hk' with e
        exact hij (by injection e)
      · rw [(free_block hf').1] at hgj; cases hgj
    · rw [(free_block hf).1] at hgi; cases hgi
structure AgainG {σ : Type} (L : σ → List (Nat × SV)) (E : σ → List (Nat × Ent)) (μ : σ → Nat) (s : σ) (env : Env) (H : Heap) : Prop where
  h : ∃ s' ρ, μ s' < μ s ∧ ρ.Nodup ∧ FitsE env (L s') ∧ FitsG H ρ (E s')
theorem loopG {n : Nat} {F : TT} (hF : TTok P F) (l : List (ESpec P)) (hm : P.follows .mixedOrders = true) {tabs : Tabs} {body : Code} {Q : QT} {env : Env} {H : Heap} {σ : Type} (ks : List Nat) (L : σ → List (Nat × SV)) (E : σ → List (Nat × Ent)) (μ : σ → Nat) (s0 : σ) (ρ0 : List Nat)
    (h0 : FitsE env (keepE env ks (L s0))) (hn : ρ0.Nodup) (h1 : FitsG H ρ0 (E s0)) {κ : Kp} (hκ : κ = kid)
    (round : ∀ s, vcE κ P F (lookT l) (lookE l) n tabs body (thenV Q (AgainG (fun s => keepE env ks (L s)) E μ s)) (envOf (keepE env ks (L s))) (heapOf (E s))) : LoopAt P n tabs body Q env H := by
  subst hκ
  rw [LoopAt_def]
  intro ht w0 M a w hE hH
  intro b k cs
  have key : ∀ m s, μ s = m → ∀ a w, EnvOk n (envOf (keepE env ks (L s))) a → HSat w0 M (heapOf (E s)) w → ∃ e a' w', lift n w0 M Q e a' w' ∧ Arrives P (lone (b.at a (.code body :: .inLoop body :: k)) cs w) b k cs e a' w' := by
    intro m
    induction m using Nat.strongRecOn with
    | _ m ih =>
      intro s hs a w hE hH
      obtain ⟨e, a1, w1, hq, harr⟩ := vcE_sound hF l hm tabs body ht _ _ _ (round s) w0 M a w hE hH b (.inLoop body :: k) cs
      cases e with
      | normal =>
        obtain ⟨env', H', ⟨s', ρ, hlt, hnd, hf1, hf2⟩, hE', hH'⟩ := hq
        obtain ⟨e2, a2, w2, hq2, harr2⟩ := ih (μ s') (hs ▸ hlt) s' rfl a1 w1 (hE'.fits hf1) (hH'.fitsG hnd hf2)
        exact ⟨e2, a2, w2, hq2, .of_steps (Steps.trans harr (.one step_inLoop)) harr2⟩
      | ret => exact ⟨.ret, a1, w1, hq, .pass (x := .inLoop body) rfl (fun _ _ => .inl (by simp)) harr⟩
      | exit id => exact ⟨.exit id, a1, w1, hq, .pass (x := .inLoop body) rfl (fun _ _ => .inl (by simp)) harr⟩
      | goto l => exact hq.elim
      | panic c => exact hq.elim
      | outgrown => exact hq.elim
  obtain ⟨e, a', w', hq, harr⟩ := key _ s0 rfl a w (hE.fits h0) (hH.fitsG hn h1)
  exact ⟨e, a', w', hq, .of_steps (.one step_loop) harr⟩
/-! ### Contracts by what is to be shown behind a call -/
def ConjP (T : KT → Prop) (ok : Nat → Prop) : Prop := ∃ (s : Prop) (R : SV → Upd → Prop), (s → ∃ v u, R v u) ∧ (s → ∀ v u, R v u → ∀ p ∈ u, ok p.1) ∧ ∀ K, T K ↔ s ∧ ∀ v u, R v u → K v u
theorem ConjP.one {ok : Nat → Prop} (v : SV) (u : Upd) (hu : ∀ p ∈ u, ok p.1) : ConjP (fun K => K v u) ok :=
  ⟨True, fun v' u' => v' = v ∧ u' = u, fun _ => ⟨v, u, rfl, rfl⟩, fun _ v' u' h => by rw [h.2]; exact hu, fun K => ⟨fun h => ⟨trivial, fun v' u' e => by rw [e.1, e.2]; exact h⟩, fun h => h.2 v u ⟨rfl, rfl⟩⟩⟩
theorem ConjP.false_ {ok : Nat → Prop} : ConjP (fun _ => False) ok := ⟨False, fun _ _ => False, fun h => h.elim, fun h => h.elim, fun K => ⟨fun h => h.elim, fun h => h.1⟩⟩
theorem ConjP.and_ {T : KT → Prop} {ok : Nat → Prop} {p : Prop} (h : p → ConjP T ok) : ConjP (fun K => p ∧ T K) ok := by
  by_cases hp : p
  · obtain ⟨s, R, h0, h1, h2⟩ := h hp
    exact ⟨s, R, h0, h1, fun K => ⟨fun hh => (h2 K).1 hh.2, fun hh => ⟨hp, (h2 K).2 hh⟩⟩⟩
  · exact ⟨False, fun _ _ => False, fun h => h.elim, fun h => h.elim, fun K => ⟨fun h => absurd h.1 hp, fun h => h.1.elim⟩⟩
theorem ConjP.side {T : KT → Prop} {ok : Nat → Prop} {p : Prop} (h : p → ConjP T ok) : ConjP (fun K => Side p ∧ T K) ok := .and_ fun hp => h hp.h
theorem ConjP.all_ {α : Type} {ok : Nat → Prop} [Inhabited α] (f : α → SV) (g : α → Upd) (hu : ∀ x, ∀ p ∈ g x, ok p.1) : ConjP (fun K => ∀ x, K (f x) (g x)) ok :=
  ⟨True, fun v u => ∃ x, v = f x ∧ u = g x, fun _ => ⟨f default, g default, default, rfl, rfl⟩, fun _ v u ⟨x, h⟩ => by rw [h.2]; exact hu x,
   fun K => ⟨fun h => ⟨trivial, fun v u ⟨x, e⟩ => by rw [e.1, e.2]; exact h x⟩, fun h x => h.2 _ _ ⟨x, rfl, rfl⟩⟩⟩
theorem ConjP.all2 {α β : Type} {ok : Nat → Prop} [Inhabited α] [Inhabited β] (f : α → β → SV) (g : α → β → Upd) (hu : ∀ x y, ∀ p ∈ g x y, ok p.1) : ConjP (fun K => ∀ x y, K (f x y) (g x y)) ok :=
  ⟨True, fun v u => ∃ x y, v = f x y ∧ u = g x y, fun _ => ⟨f default default, g default default, default, default, rfl, rfl⟩, fun _ v u ⟨x, y, h⟩ => by rw [h.2]; exact hu x y,
   fun K => ⟨fun h => ⟨trivial, fun v u ⟨x, y, e⟩ => by rw [e.1, e.2]; exact h x y⟩, fun h x y => h.2 _ _ ⟨x, y, rfl, rfl⟩⟩⟩
structure LookX {X Y : Type} (enc : X → Y) (xs : Y) (K : X → Prop) : Prop where
  h : ∃ x, xs = enc x ∧ K x
theorem LookX.mk' {X Y : Type} {enc : X → Y} {xs : Y} {K : X → Prop} {x : X} (h : xs = enc x) (hK : K x) : LookX enc xs K := ⟨x, h, hK⟩
theorem ConjP.look {X Y : Type} {enc : X → Y} (inj : ∀ x y, enc x = enc y → x = y) {xs : Y} {T : X → KT → Prop} {ok : Nat → Prop} (h : ∀ x, xs = enc x → ConjP (T x) ok) : ConjP (fun K => LookX enc xs fun x => T x K) ok := by
  by_cases hx : ∃ x, xs = enc x
  · obtain ⟨x, rfl⟩ := hx
    obtain ⟨s, R, h0, h1, h2⟩ := h x rfl
    refine ⟨s, R, h0, h1, fun K => ?_⟩
    rw [← h2 K]
    exact ⟨fun ⟨y, hy, hT⟩ => by rw [inj x y hy]; exact hT, fun hT => ⟨x, rfl, hT⟩⟩
  · exact ⟨False, fun _ _ => False, fun h => h.elim, fun h => h.elim, fun K => ⟨fun ⟨y, hy, _⟩ => absurd ⟨y, hy⟩ hx, fun h => h.1.elim⟩⟩
def specT (T : TSpec) : Spec := fun args H d => ⟨T args H d fun _ _ => True, fun v u => T args H d (fun _ _ => True) ∧ ∀ K : KT, T args H d K → K v u⟩
abbrev okKey (wr : Bool) (H : Heap) (d : Nat) : Nat → Prop := fun i => i = d ∨ i = d + 100000 ∨ i = d + 200000 ∨ (wr = true ∧ (H i).isSome = true)
def ES {f : FuncId} (hB : Bodied P f) (wr : Bool) (T : Kp → TSpec) {κ : Kp} (hκ : κ = kid) (hC : ∀ args H d, ConjP (T kid args H d) (okKey wr H d))
    (run : ∀ (args : List SV) (H0 H : Heap) (d : Nat) (w0 : World) (M : Nat → Prop) (w : World), T kid args H0 d (fun _ _ => True) → (∀ i e, H0 i = some e → H i = some e) → HSat w0 M H w →
      Calls P f (args.map SV.den).toArray w fun e w' => ∃ v u x, e = .returned x ∧ (∀ K : KT, T kid args H0 d K → K v u) ∧ (v.known = true → x = v.den) ∧ HSat w0 M (upds H u) w') : ESpec P where
  f := f
  wr := wr
  S := specT (T kid)
  ok :=
    { run := fun args H0 H d w0 M w hs hsub hH => (run args H0 H d w0 M w hs hsub hH).mono fun e w' ⟨v, u, x, h1, h2, h3, h4⟩ => ⟨v, u, x, h1, ⟨hs, h2⟩, h3, h4⟩
      some_ := fun args H d hs => by
        obtain ⟨s, R, h0, h1, h2⟩ := hC args H d
        obtain ⟨v, u, hR⟩ := h0 ((h2 _).1 hs).1
        exact ⟨v, u, hs, fun K hK => ((h2 K).1 hK).2 v u hR⟩
      keys := fun args H d v u hR => by
        obtain ⟨s, R, h0, h1, h2⟩ := hC args H d
        have hs := ((h2 _).1 hR.1).1
        exact hR.2 (fun _ u => ∀ p ∈ u, okKey wr H d p.1) ((h2 _).2 ⟨hs, h1 hs⟩)
      body := fun _ _ _ _ => hB }
  T := T κ
  hT := by
    subst hκ
    intro args H d K
    obtain ⟨s, R, h0, h1, h2⟩ := hC args H d
    apply propext
    constructor
    · intro hK
      have hs := ((h2 K).1 hK).1
      have ht : T kid args H d fun _ _ => True := (h2 _).2 ⟨hs, fun _ _ _ => trivial⟩
      exact ⟨ht, fun v u hR => hR.2 K hK⟩
    · rintro ⟨hs, hall⟩
      have hs' := ((h2 _).1 hs).1
      exact (h2 K).2 ⟨hs', fun v u hR => hall v u ⟨hs, fun K' hK' => ((h2 K').1 hK').2 v u hR⟩⟩
/-! ### Rows of like things -/
section
variable {X : Type} {f : X → List C} {z : Nat}
theorem enc_len (hz : ∀ x, (f x).length = z) : ∀ l : List X, (l.flatMap f).length = l.length * z
  | [] => by simp
  | x :: r => by rw [List.flatMap_cons, List.length_append, hz, enc_len hz r, List.length_cons, Nat.add_mul]; omega
theorem enc_get (hz : ∀ x, (f x).length = z) : ∀ (l : List X) (i : Nat) (x : X) (o : Nat), l[i]? = some x → o < z → (l.flatMap f)[i * z + o]? = (f x)[o]?
  | [], i, x, o, h, _ => by simp at h
  | y :: r, 0, x, o, h, ho => by
    simp at h
    subst h
    rw [List.flatMap_cons, Nat.zero_mul, Nat.zero_add, List.getElem?_append_left (by rw [hz]; exact ho)]
  | y :: r, i + 1, x, o, h, ho => by
    rw [List.flatMap_cons, List.getElem?_append_right (by rw [hz, Nat.add_mul]; omega), hz, show (i + 1) * z + o - z = i * z + o by rw [Nat.add_mul]; omega]
    exact enc_get hz r i x o (by simpa using h) ho
theorem enc_take (hz : ∀ x, (f x).length = z) (h0 : 0 < z) (l : List X) (i : Nat) (x : X) (h : l[i]? = some x) : takeN (l.flatMap f) (i * z) z = some (f x) := by
  have hi : i < l.length := (List.getElem?_eq_some_iff.1 h).1
  have hl := enc_len hz l
  have hle : i * z + z ≤ (l.flatMap f).length := by rw [hl]; have := Nat.mul_le_mul_right z (show i + 1 ≤ l.length from hi); rw [Nat.add_mul] at this; omega
  unfold takeN
  rw [if_pos ⟨h0, hle⟩]
  congr 1
  apply List.ext_getElem?
  intro j
  rw [getElem?_drop_take]
  split
  · rename_i hj; exact enc_get hz l i x j h hj
  · rename_i hj; exact (List.getElem?_eq_none (by rw [hz]; omega)).symm
theorem enc_put (hz : ∀ x, (f x).length = z) (l : List X) (i : Nat) (x x' : X) (o : Nat) (c : C) (h : l[i]? = some x) (ho : o < z) (hx : f x' = (f x).set o c) : putCells (l.flatMap f) (i * z + o) [c] = (l.set i x').flatMap f := by
  have hi : i < l.length := (List.getElem?_eq_some_iff.1 h).1
  show (l.flatMap f).set (i * z + o) c = _
  revert i
  induction l with
  | nil => intro i h hi; simp at hi
  | cons y r ih =>
    intro i h hi
    cases i with
    | zero =>
      simp at h
      subst h
      rw [List.set_cons_zero, List.flatMap_cons, List.flatMap_cons, Nat.zero_mul, Nat.zero_add, List.set_append_left _ _ (by rw [hz]; exact ho), hx]
    | succ i =>
      rw [List.set_cons_succ, List.flatMap_cons, List.flatMap_cons, List.set_append_right _ _ (by rw [hz, Nat.add_mul]; omega), hz, show (i + 1) * z + o - z = i * z + o by rw [Nat.add_mul]; omega]
      rw [ih i (by simpa using h) (by simpa using hi)]
theorem enc_ok1 (h1 : ∀ x, ok1 (f x) = true) : ∀ l : List X, ok1 (l.flatMap f) = true
  | [] => rfl
  | x :: r => by
    rw [List.flatMap_cons]
    have a := h1 x
    have b := enc_ok1 h1 r
    unfold ok1 at *
    rw [List.all_append, a, b]
    rfl
theorem enc_inj (hz : ∀ x, (f x).length = z) (h0 : 0 < z) (hf : ∀ x y, f x = f y → x = y) : ∀ l l' : List X, l.flatMap f = l'.flatMap f → l = l'
  | [], [], _ => rfl
  | [], y :: r, h => by
    have := congrArg List.length h
    rw [List.flatMap_cons, List.length_append, hz] at this
    simp at this
    omega
  | x :: r, [], h => by
    have := congrArg List.length h
    rw [List.flatMap_cons, List.length_append, hz] at this
    simp at this
    omega
  | x :: r, y :: s, h => by
    rw [List.flatMap_cons, List.flatMap_cons] at h
    obtain ⟨h1, h2⟩ := List.append_inj h (by rw [hz, hz])
    rw [hf x y h1, enc_inj hz h0 hf r s h2]
end
end Go.Proofs.YtbcicjmepojlnaaGreat.Eng
