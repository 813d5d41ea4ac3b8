/- Contracts: how they are laid together, how they come of a function's text; no condition. -/
import Derived.Test.YtjlgeoaomegbmaaEng12
namespace Go.Proofs.Ytjlgeoaomegbmaa.Eng
open Go Go.RowKit
set_option autoImplicit false
set_option linter.unusedSimpArgs false
set_option linter.unusedVariables false

variable {P : Program}

structure CSpec (P : Program) where
  f : FuncId
  wr : Bool
  S : Spec
  ok : SpecOk P f wr S

def noSpec : Spec := fun _ _ _ => ⟨False, fun _ _ => False⟩
theorem noSpec_ok (f : FuncId) (b : Bool) : SpecOk P f b noSpec := ⟨fun _ _ _ _ _ _ _ h => h.elim, fun _ _ _ h => h.elim, fun _ _ _ _ _ h => h.elim, fun _ _ _ h => h.elim⟩

def lookG : List (CSpec P) → FuncId → Spec
  | [], _ => noSpec
  | c :: r, g => if g = c.f then c.S else lookG r g
def lookW : List (CSpec P) → FuncId → Bool
  | [], _ => false
  | c :: r, g => if g = c.f then c.wr else lookW r g
theorem look_ok : ∀ (l : List (CSpec P)) (g : FuncId), SpecOk P g (lookW l g) (lookG l g)
  | [], g => noSpec_ok g _
  | c :: r, g => by
    simp only [lookG, lookW]
    by_cases h : g = c.f
    · rw [if_pos h, if_pos h, h]; exact c.ok
    · rw [if_neg h, if_neg h]; exact look_ok r g
def ctxOf (F : TT) (hF : TTok P F) (l : List (CSpec P)) : Ctx P := ⟨F, hF, lookG l, lookW l, look_ok l⟩

theorem bodied {f : FuncId} {fn : Func} {c : Code} (hf : P.funcs[f]? = some fn) (hb : fn.body = some c) (hn : (fn.name == "runtime.NumGoroutine") = false) : Bodied P f := ⟨fn, c, hf, hb, hn⟩

/-! ### What is only computed -/
def pureSpec (F : List SV → Heap → Option (Prop × SV)) : Spec := fun args H _ => match F args H with
  | some (s, v) => ⟨s, fun v' u => v' = v ∧ u = []⟩
  | none => ⟨False, fun _ _ => False⟩

theorem pure_ok {f : FuncId} (hB : Bodied P f) (F : List SV → Heap → Option (Prop × SV))
    (h : ∀ args H s v (w0 : World) M (w : World) (H' : Heap), F args H = some (s, v) → s → (∀ i e, H i = some e → H' i = some e) → HSat w0 M H' w → Calls P f (args.map SV.den).toArray w fun e w' => e = .returned v.den ∧ Below w.heap.size w w') : SpecOk P f false (pureSpec F) where
  run := by
    intro args H0 H d w0 M w hs hsub hH
    unfold pureSpec at hs ⊢
    split at hs
    · rename_i s v hF
      refine (h args H0 s v w0 M w H hF hs hsub hH).mono ?_
      rintro e w' ⟨rfl, hb⟩
      exact ⟨v, [], v.den, rfl, ⟨rfl, rfl⟩, fun _ => rfl, hH.below hb⟩
    · exact hs.elim
  some_ := by
    intro args H d hs
    unfold pureSpec at hs ⊢
    split at hs
    · exact ⟨_, _, rfl, rfl⟩
    · exact hs.elim
  keys := by
    intro args H d v u hR p hp
    unfold pureSpec at hR
    split at hR
    · rw [hR.2] at hp; cases hp
    · exact hR.elim
  body := fun _ _ _ _ => hB

/-- The empty start: nothing tracked but the nil slice's row. -/
def H0 : Heap := heapOf [(nilId, .rd none 1 0 [])]

/-- Rows that are only read are tracked from any world on. -/
theorem HSat.reads {w : World} {E : List (Nat × Ent)} (h : ∀ p ∈ E, ∃ A sz m xs, p.2 = .rd A sz m xs ∧ p.2.holds w) : HSat w (fun _ => False) (heapOf E) w := by
  have key : ∀ i e, heapOf E i = some e → ∃ A sz m xs, e = .rd A sz m xs ∧ e.holds w := by
    intro i e he
    obtain ⟨k, hk⟩ := heapOf_some E i e he
    exact h (i, e) (List.mem_of_getElem? hk)
  refine ⟨Fr.refl w _, fun i e hi => ?_, fun i e hi g hg => ?_, fun i e hi hm => ?_, fun i j ei ej _ hi _ hm => ?_⟩
  · obtain ⟨_, _, _, _, _, hh⟩ := key i e hi; exact hh
  · obtain ⟨A, sz, m, xs, rfl, hh⟩ := key i e hi
    simp only [Ent.block] at hg
    split at hg
    · cases hg
    · rename_i hx
      obtain ⟨p, rfl, hp, _⟩ := hh.2 hx
      simp at hg
      omega
  · obtain ⟨A, sz, m, xs, rfl, _⟩ := key i e hi; cases hm
  · obtain ⟨A, sz, m, xs, rfl, _⟩ := key i ei hi; cases hm

theorem nil_holds (w : World) : (Ent.rd none 1 0 []).holds w := ⟨rfl, fun h => absurd rfl h⟩

theorem HSat.start (w : World) : HSat w (fun _ => False) H0 w := HSat.reads fun p hp => by
  simp only [List.mem_singleton] at hp
  subst hp
  exact ⟨none, 1, 0, [], rfl, nil_holds w⟩

theorem HSat.isBelow {w w' : World} {H : Heap} (h : HSat w (fun _ => False) H w') : Below w.heap.size w w' := h.fr.below fun _ h => h

/-- A pure contract out of a function's text: numbers and structs come in, one value comes out. -/
theorem pure_of_vc (X : Ctx P) (hm : P.follows .mixedOrders = true) {f : FuncId} {fn : Func} {c : Code} (tabs : Tabs) (hf : P.funcs[f]? = some fn) (hb : fn.body = some c) (ht : tabsOk tabs c = true) (vs : Array Value) (L : List (Nat × SV)) (r : Value) (w : World) (n : Nat)
    (hn : fn.ntmps = n) (rs : List ResultVar) (hrs : fn.results.toList = rs) (hvs : vs.size ≤ n) (hL : ∀ p ∈ L, vs[p.1]? = some p.2.den) (h : vc X n tabs c (retQ P rs fun v _ => v.den = r) (envOf L) H0) :
    Calls P f vs w fun e w' => e = .returned r ∧ Below w.heap.size w w' :=
  (calls_of_vc X hm tabs hf hb ht vs L H0 w hn rs hrs hvs hL (HSat.start w) _ h).mono fun e w' ⟨v, H', he, hr, hH⟩ => ⟨by rw [he, hr], hH.isBelow⟩

end Go.Proofs.Ytjlgeoaomegbmaa.Eng
