/- Texts of this work, laid together: symbolic execution over the model, contracts of the program's functions, what they come to; conditions: as each says. -/
import Derived.Test.YtbcicjmepojlnaaGreatPkGBB
import Derived.Test.YtbcicjmepojlnaaGreatPkGBV
/- What an argument that is a slice of calls tells; no condition. -/
namespace Go.Proofs.YtbcicjmepojlnaaGreat.Eng
open Go Go.RowKit Go.ChangeShapes Go.WideShapes Go.Deep
set_option autoImplicit false
set_option linter.unusedVariables false
section
variable {H : Type} {enc : TypeId × Value → H} {P : Program} {w : World} {base : Nat} {spare : Nat → Bool} {held : Bool} {fuel : Nat}
def InCl (c : Cl) : Prop := In64 c.a ∧ In64 c.f ∧ In64 c.o ∧ In64 c.to
theorem trod_cl {e : TypeId} {f0 f1 f2 f3 f4 f5 f6 f7 f8 : Field} {cs : List Value} {x : DataW H × List MemPlace} (he : P.underlying e = some (.struct #[f0, f1, f2, f3, f4, f5, f6, f7, f8])) (hone : oneCellFields P #[f0, f1, f2, f3, f4, f5, f6, f7, f8] = true) (hC : P.cellsOf e = 9)
    (h0 : P.underlying f0.type = some (.int .i64)) (h1 : P.underlying f1.type = some (.int .i64)) (h2 : P.underlying f2.type = some (.int .i64)) (h3 : P.underlying f3.type = some (.int .i64)) (h4 : P.underlying f4.type = some (.int .i64)) (h5 : P.underlying f5.type = some (.int .i64)) (h6 : P.underlying f6.type = some (.int .i64)) (h7 : P.underlying f7.type = some (.int .i64)) (h8 : P.underlying f8.type = some (.int .i64))
    (h : DataW.trod enc P w base spare held fuel e cs = some x) : ∃ c : Cl, cs = (encCl c).map C.den ∧ InCl c := by
  obtain ⟨hl, hj⟩ := trod_at he hone hC h
  match cs, hl with
  | [c0, c1, c2, c3, c4, c5, c6, c7, c8], _ =>
    obtain ⟨v0, _, _, e0, t0⟩ := hj 0 f0 rfl
    obtain ⟨v1, _, _, e1, t1⟩ := hj 1 f1 rfl
    obtain ⟨v2, _, _, e2, t2⟩ := hj 2 f2 rfl
    obtain ⟨v3, _, _, e3, t3⟩ := hj 3 f3 rfl
    obtain ⟨v4, _, _, e4, t4⟩ := hj 4 f4 rfl
    obtain ⟨v5, _, _, e5, t5⟩ := hj 5 f5 rfl
    obtain ⟨v6, _, _, e6, t6⟩ := hj 6 f6 rfl
    obtain ⟨v7, _, _, e7, t7⟩ := hj 7 f7 rfl
    obtain ⟨v8, _, _, e8, t8⟩ := hj 8 f8 rfl
    simp only [List.getElem?_cons_zero, List.getElem?_cons_succ, Option.some.injEq] at e0 e1 e2 e3 e4 e5 e6 e7 e8
    subst e0 e1 e2 e3 e4 e5 e6 e7 e8
    obtain ⟨m0, rfl, w0⟩ := trod_i h0 t0
    obtain ⟨m1, rfl, w1⟩ := trod_i h1 t1
    obtain ⟨m2, rfl, w2⟩ := trod_i h2 t2
    obtain ⟨m3, rfl, w3⟩ := trod_i h3 t3
    obtain ⟨m4, rfl, w4⟩ := trod_i h4 t4
    obtain ⟨m5, rfl, w5⟩ := trod_i h5 t5
    obtain ⟨m6, rfl, w6⟩ := trod_i h6 t6
    obtain ⟨m7, rfl, w7⟩ := trod_i h7 t7
    obtain ⟨m8, rfl, w8⟩ := trod_i h8 t8
    exact ⟨⟨m0, m1, m2, m3, m4, m5, m6, m7, m8⟩, rfl, wf_in w1, wf_in w6, wf_in w8, wf_in w4⟩
end
end Go.Proofs.YtbcicjmepojlnaaGreat.Eng
