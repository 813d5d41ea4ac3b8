/- Loops whose fixed slots and things are taken over as they lie; a loop's round laid open; no condition. -/
import Derived.Test.YtjlgeoaomegbmaaEng16
namespace Go.Proofs.Ytjlgeoaomegbmaa.Eng
open Go Go.RowKit
set_option autoImplicit false
set_option linter.unusedSimpArgs false
set_option linter.unusedVariables false

variable {P : Program} {n : Nat} {w0 : World} {M : Nat → Prop}

/-- The slots (things) that a loop keeps as they lie. -/
def keepE (env : Env) : List Nat → List (Nat × SV) → List (Nat × SV)
  | [], l => l
  | t :: r, l => (t, env t) :: keepE env r l
def keepH (H : Heap) : List Nat → List (Nat × Ent) → List (Nat × Ent)
  | [], l => l
  | i :: r, l => match H i with
    | some e => (i, e) :: keepH H r l
    | none => keepH H r l

theorem loopK {F : TT} (hF : TTok P F) (l : List (ESpec P)) (hm : P.follows .mixedOrders = true) {tabs : Tabs} {body : Code} {Q : QT} {env : Env} {H : Heap} {σ : Type} (ks hs : List Nat) (L : σ → List (Nat × SV)) (E : σ → List (Nat × Ent)) (μ : σ → Nat) (s0 : σ) (ρ0 : List Nat)
    (h0 : FitsE env (keepE env ks (L s0))) (hn : ρ0.Nodup) (h1 : FitsH H ρ0 (keepH H hs (E s0))) {κ : Kp} (hκ : κ = kid)
    (round : ∀ s, vcE κ P F (lookT l) (lookE l) n tabs body (thenV Q (Again (fun s => keepE env ks (L s)) (fun s => keepH H hs (E s)) μ s)) (envOf (keepE env ks (L s))) (heapOf (keepH H hs (E s)))) : LoopAt P n tabs body Q env H :=
  loopE hF l hm (fun s => keepE env ks (L s)) (fun s => keepH H hs (E s)) μ s0 ρ0 h0 hn h1 hκ round

end Go.Proofs.Ytjlgeoaomegbmaa.Eng
