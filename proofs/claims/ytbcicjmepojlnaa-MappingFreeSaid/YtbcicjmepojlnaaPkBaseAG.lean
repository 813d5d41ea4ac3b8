/- Texts of this work, laid together: symbolic execution over the model, contracts of the program's functions, what they come to; conditions: as each says. -/
import Derived.Test.YtbcicjmepojlnaaPkBaseAF
/- As callsE, loopG, with the program's name kept shut, and great arrays among the results; no condition. -/
namespace Go.Proofs.Ytbcicjmepojlnaa.Eng
open Go Go.RowKit
set_option autoImplicit false
set_option linter.unusedSimpArgs false
set_option linter.unusedVariables false
variable {P : Program} {w0 w w' : World} {M : Nat → Prop}

/-- What a function hands back, by the table; a great array's cells are shut. -/
def resTK (κ : Kp) (F : TT) : List ResultVar → Env → Heap → (List SV → Prop) → Prop
  | [], env, H, K => K []
  | .tmp t :: r, env, H, K => match env t with
    | .tup _ => False
    | .c .any => False
    | x => resTK κ F r env H fun l => K (x :: l)
  | .cell t ty :: r, env, H, K => match env t with
    | .c (.loc id b off) => match H id with
      | some (.blk b' t' cs) => b = b' ∧ match look F.sz ty with
        | some (true, m) => match big F t' with
          | true => LookN (κ _ (takeM cs off m)) fun l0 => resTK κ F r env H fun l => K (.agg l0 :: l)
          | false => off + m ≤ cs.length ∧ resTK κ F r env H fun l => K (.agg ((cs.drop off).take m) :: l)
        | some (false, _) => match cs[off]? with
          | some x => resTK κ F r env H fun l => K (.c x :: l)
          | none => False
        | none => False
      | _ => False
    | _ => False
theorem resTK_eq (F : TT) (env : Env) (H : Heap) : ∀ (rs : List ResultVar) (K : List SV → Prop), resTK kid F rs env H K = resTE F rs env H K
  | [], K => rfl
  | .tmp t :: r, K => by
    simp only [resTK, resTE]
    generalize env t = y
    cases y with
    | tup l => rfl
    | agg l => exact resTK_eq F env H r _
    | c x => cases x <;> first | rfl | exact resTK_eq F env H r _
  | .cell t ty :: r, K => by
    simp only [resTK, resTE, kid, LookM_eq]
    cases env t with
    | c x =>
      cases x with
      | loc id b off =>
        simp only
        cases H id with
        | none => rfl
        | some e =>
          cases e with
          | blk b' t' cs =>
            simp only
            cases look F.sz ty with
            | none => rfl
            | some q =>
              obtain ⟨u, m⟩ := q
              cases u with
              | true =>
                cases big F t' with
                | true => simp only [resTK_eq F env H r]
                | false => simp only [resTK_eq F env H r]
              | false =>
                simp only
                cases cs[off]? with
                | none => rfl
                | some x => simp only [resTK_eq F env H r]
          | _ => rfl
      | _ => rfl
    | _ => rfl
def retQK (κ : Kp) (F : TT) (rs : List ResultVar) (R : SV → Heap → Prop) : QT
  | .exit _, _, _ => False
  | _, env, H => resTK κ F rs env H fun l => R (single l) H
theorem retQK_eq (F : TT) (rs : List ResultVar) (R : SV → Heap → Prop) : retQK kid F rs R = retQE F rs R := by
  funext x env H
  cases x with
  | normal => exact resTK_eq F env H rs _
  | ret => exact resTK_eq F env H rs _
  | exit id => rfl

theorem callsP {F : TT} (hF : TTok P F) (l : List (ESpec P)) (hm : P.follows .mixedOrders = true) {n : Nat} {f : FuncId} {fn : Func} {c : Code} (tabs : Tabs) (hf : P.funcs[f]? = some fn) (hb : fn.body = some c) (ht : tabsQ tabs c = true) (vs : Array Value) (L : List (Nat × SV)) (H : Heap) (w : World)
    (hn : fn.ntmps = n) (rs : List ResultVar) (hrs : fn.results.toList = rs) (hvs : vs.size ≤ n) (hL : ∀ p ∈ L, vs[p.1]? = some p.2.den) (hH : HSat w M H w) (R : SV → Heap → Prop) {κ : Kp} (hκ : κ = kid) (h : ∀ P', P' = P → vcE κ P' F (lookT l) (lookE l) n tabs c (retQK κ F rs R) (envOf L) H) :
    Calls P f vs w fun e w' => ∃ v H', e = .returned v.den ∧ R v H' ∧ HSat w M H' w' := by
  refine callsE hF l hm tabs hf hb ht vs L H w hn rs hrs hvs hL hH R hκ ?_
  have := h P rfl
  subst hκ
  rw [retQK_eq] at this
  exact this
theorem pureP {F : TT} (hF : TTok P F) (l : List (ESpec P)) (hm : P.follows .mixedOrders = true) {f : FuncId} {fn : Func} {c : Code} (tabs : Tabs) (hf : P.funcs[f]? = some fn) (hb : fn.body = some c) (ht : tabsQ tabs c = true) (vs : Array Value) (L : List (Nat × SV)) (r : Value) (w : World) (n : Nat)
    (hn : fn.ntmps = n) (rs : List ResultVar) (hrs : fn.results.toList = rs) (hvs : vs.size ≤ n) (hL : ∀ p ∈ L, vs[p.1]? = some p.2.den) {κ : Kp} (hκ : κ = kid) (h : ∀ P', P' = P → vcE κ P' F (lookT l) (lookE l) n tabs c (retQK κ F rs fun v _ => Is (κ _ r) v) (envOf L) H0) :
    Calls P f vs w fun e w' => e = .returned r ∧ Below w.heap.size w w' := by
  refine pureE hF l hm tabs hf hb ht vs L r w n hn rs hrs hvs hL hκ ?_
  have := h P rfl
  subst hκ
  rw [retQK_eq] at this
  exact this
theorem loopP {P' : Program} (hP : P' = P) {n : Nat} {F : TT} (hF : TTok P F) (l : List (ESpec P)) (hm : P.follows .mixedOrders = true) {tabs : Tabs} {body : Code} {Q : QT} {env : Env} {H : Heap} {σ : Type} (ks : List Nat) (L : σ → List (Nat × SV)) (E : σ → List (Nat × Ent)) (μ : σ → Nat) (s0 : σ) (ρ0 : List Nat)
    (h0 : FitsE env (keepE env ks (L s0))) (hn : ρ0.Nodup) (h1 : FitsG H ρ0 (E s0)) {κ : Kp} (hκ : κ = kid)
    (round : ∀ s, vcE κ P' F (lookT l) (lookE l) n tabs body (thenV Q (AgainG (fun s => keepE env ks (L s)) E μ s)) (envOf (keepE env ks (L s))) (heapOf (E s))) : LoopAt P' n tabs body Q env H := by
  subst hP
  exact loopG hF l hm ks L E μ s0 ρ0 h0 hn h1 hκ round
end Go.Proofs.Ytbcicjmepojlnaa.Eng
