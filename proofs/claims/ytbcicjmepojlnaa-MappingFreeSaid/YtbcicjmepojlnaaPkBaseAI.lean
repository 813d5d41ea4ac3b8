/- Texts of this work, laid together: symbolic execution over the model, contracts of the program's functions, what they come to; conditions: as each says. -/
import Derived.ChangeOld
import Derived.Below
import Derived.Carry
import Derived.RowKit
import Derived.Test.YtbcicjmepojlnaaPkBaseAF
/- What an argument's type tells of its value: areas and numbers; what stays behind a call that turns nothing old; no condition. -/
namespace Go.Proofs.Ytbcicjmepojlnaa.Eng
open Go Go.RowKit Go.ChangeShapes Go.WideShapes
set_option autoImplicit false

variable {P : Program} {w : World} {r : Reach} {base : Nat}

theorem cell_int {u : TypeId} {v : Value} (hu : P.underlying u = some (.int .i64)) (h : Cell.okWide P w r base u v) : ∃ n, v = .int .i64 n ∧ In64 n := by
  simp only [Cell.okWide, hu, Cell.ok] at h
  cases v <;> simp_all
  rename_i k n
  obtain ⟨rfl, h⟩ := h
  have := h
  simp only [IntKind.has, IntKind.min, IntKind.max, IntKind.signed, IntKind.bits] at this
  exact this
theorem cell_bool {u : TypeId} {v : Value} (hu : P.underlying u = some .bool) (h : Cell.okWide P w r base u v) : ∃ b, v = .bool b := by
  simp only [Cell.okWide, hu, Cell.ok] at h
  cases v <;> simp_all
theorem val_int {u : TypeId} {v : Value} (hu : P.underlying u = some (.int .i64)) (h : Value.okWide P w r base u v) : ∃ n, v = .int .i64 n ∧ In64 n := by
  simp only [Value.okWide, hu] at h
  exact cell_int hu h
/-- An area comes as six cells. -/
theorem val_area {t i64 i b : TypeId} {v : Value} {fs : Array Field} (ht : P.underlying t = some (.struct fs)) (hc : P.cellTypes P.depth t = some [i64, i64, i, b, i, i64]) (hn : P.cellsOf t = 6)
    (h1 : P.underlying i64 = some (.int .i64)) (h2 : P.underlying i = some (.int .i64)) (h3 : P.underlying b = some .bool) (h : Value.okWide P w r base t v) :
    ∃ (a1 a2 a3 : Int) (a4 : Bool) (a5 a6 : Int), v = (SV.agg [.v (.int .i64 a1), .v (.int .i64 a2), .v (.int .i64 a3), .v (.bool a4), .v (.int .i64 a5), .v (.int .i64 a6)]).den ∧ In64 a1 ∧ In64 a2 ∧ In64 a3 ∧ In64 a5 ∧ In64 a6 := by
  simp only [Value.okWide, ht] at h
  obtain ⟨cs, rfl, hs, ts, hts, _, hall⟩ := h
  rw [hc] at hts
  injection hts with hts
  subst hts
  rw [hn] at hs
  obtain ⟨l⟩ := cs
  match l, hs with
  | [c0, c1, c2, c3, c4, c5], _ =>
    obtain ⟨u0, e0, k0⟩ := hall 0 c0 rfl
    obtain ⟨u1, e1, k1⟩ := hall 1 c1 rfl
    obtain ⟨u2, e2, k2⟩ := hall 2 c2 rfl
    obtain ⟨u3, e3, k3⟩ := hall 3 c3 rfl
    obtain ⟨u4, e4, k4⟩ := hall 4 c4 rfl
    obtain ⟨u5, e5, k5⟩ := hall 5 c5 rfl
    simp only [List.length_cons, List.length_nil, Nat.reduceAdd, Nat.reduceMod, List.getElem?_cons_zero, List.getElem?_cons_succ, Option.some.injEq] at e0 e1 e2 e3 e4 e5
    subst e0 e1 e2 e3 e4 e5
    obtain ⟨a1, rfl, g1⟩ := cell_int h1 k0
    obtain ⟨a2, rfl, g2⟩ := cell_int h1 k1
    obtain ⟨a3, rfl, g3⟩ := cell_int h2 k2
    obtain ⟨a4, rfl⟩ := cell_bool h3 k3
    obtain ⟨a5, rfl, g5⟩ := cell_int h2 k4
    obtain ⟨a6, rfl, g6⟩ := cell_int h1 k5
    exact ⟨a1, a2, a3, a4, a5, a6, rfl, g1, g2, g3, g5, g6⟩

end Go.Proofs.Ytbcicjmepojlnaa.Eng
/- What an argument's type tells of its value: bytes, bools, arrays of numbers; no condition. -/
namespace Go.Proofs.Ytbcicjmepojlnaa.Eng
open Go Go.RowKit Go.ChangeShapes Go.WideShapes
set_option autoImplicit false

variable {P : Program} {w : World} {r : Reach} {base : Nat}

theorem cell_u8 {u : TypeId} {v : Value} (hu : P.underlying u = some (.int .u8)) (h : Cell.okWide P w r base u v) : ∃ n, v = .int .u8 n ∧ 0 ≤ n ∧ n ≤ 255 := by
  simp only [Cell.okWide, hu, Cell.ok] at h
  cases v <;> simp_all
  rename_i k n
  obtain ⟨rfl, h⟩ := h
  have := h
  simp only [IntKind.has, IntKind.min, IntKind.max, IntKind.signed, IntKind.bits] at this
  exact this
theorem cell_u16 {u : TypeId} {v : Value} (hu : P.underlying u = some (.int .u16)) (h : Cell.okWide P w r base u v) : ∃ n, v = .int .u16 n ∧ 0 ≤ n ∧ n ≤ 65535 := by
  simp only [Cell.okWide, hu, Cell.ok] at h
  cases v <;> simp_all
  rename_i k n
  obtain ⟨rfl, h⟩ := h
  have := h
  simp only [IntKind.has, IntKind.min, IntKind.max, IntKind.signed, IntKind.bits] at this
  exact this
theorem val_u8 {u : TypeId} {v : Value} (hu : P.underlying u = some (.int .u8)) (h : Value.okWide P w r base u v) : ∃ n, v = .int .u8 n ∧ 0 ≤ n ∧ n ≤ 255 := by
  simp only [Value.okWide, hu] at h
  exact cell_u8 hu h
theorem val_bool {u : TypeId} {v : Value} (hu : P.underlying u = some .bool) (h : Value.okWide P w r base u v) : ∃ b, v = .bool b := by
  simp only [Value.okWide, hu] at h
  exact cell_bool hu h
/-- An array of two numbers. -/
theorem val_i2 {t u e : TypeId} {v : Value} {m : Nat} (ht : P.underlying t = some (.array m e)) (hc : P.cellTypes P.depth t = some [u, u]) (hn : P.cellsOf t = 2)
    (h1 : P.underlying u = some (.int .i64)) (h : Value.okWide P w r base t v) : ∃ (a1 a2 : Int), v = (SV.agg [.v (.int .i64 a1), .v (.int .i64 a2)]).den ∧ In64 a1 ∧ In64 a2 := by
  simp only [Value.okWide, ht] at h
  obtain ⟨cs, rfl, hs, ts, hts, _, hall⟩ := h
  rw [hc] at hts
  injection hts with hts
  subst hts
  rw [hn] at hs
  obtain ⟨l⟩ := cs
  match l, hs with
  | [c0, c1], _ =>
    obtain ⟨u0, e0, k0⟩ := hall 0 c0 rfl
    obtain ⟨u1, e1, k1⟩ := hall 1 c1 rfl
    simp only [List.length_cons, List.length_nil, Nat.reduceAdd, Nat.reduceMod, List.getElem?_cons_zero, List.getElem?_cons_succ, Option.some.injEq] at e0 e1
    subst e0 e1
    obtain ⟨a1, rfl, g1⟩ := cell_int h1 k0
    obtain ⟨a2, rfl, g2⟩ := cell_int h1 k1
    exact ⟨a1, a2, rfl, g1, g2⟩
/-- An array of four short numbers. -/
theorem val_u4 {t u e : TypeId} {v : Value} {m : Nat} (ht : P.underlying t = some (.array m e)) (hc : P.cellTypes P.depth t = some [u, u, u, u]) (hn : P.cellsOf t = 4)
    (h1 : P.underlying u = some (.int .u16)) (h : Value.okWide P w r base t v) : ∃ (a1 a2 a3 a4 : Int), v = (SV.agg [.v (.int .u16 a1), .v (.int .u16 a2), .v (.int .u16 a3), .v (.int .u16 a4)]).den ∧
    (0 ≤ a1 ∧ a1 ≤ 65535) ∧ (0 ≤ a2 ∧ a2 ≤ 65535) ∧ (0 ≤ a3 ∧ a3 ≤ 65535) ∧ (0 ≤ a4 ∧ a4 ≤ 65535) := by
  simp only [Value.okWide, ht] at h
  obtain ⟨cs, rfl, hs, ts, hts, _, hall⟩ := h
  rw [hc] at hts
  injection hts with hts
  subst hts
  rw [hn] at hs
  obtain ⟨l⟩ := cs
  match l, hs with
  | [c0, c1, c2, c3], _ =>
    obtain ⟨u0, e0, k0⟩ := hall 0 c0 rfl
    obtain ⟨u1, e1, k1⟩ := hall 1 c1 rfl
    obtain ⟨u2, e2, k2⟩ := hall 2 c2 rfl
    obtain ⟨u3, e3, k3⟩ := hall 3 c3 rfl
    simp only [List.length_cons, List.length_nil, Nat.reduceAdd, Nat.reduceMod, List.getElem?_cons_zero, List.getElem?_cons_succ, Option.some.injEq] at e0 e1 e2 e3
    subst e0 e1 e2 e3
    obtain ⟨a1, rfl, g1⟩ := cell_u16 h1 k0
    obtain ⟨a2, rfl, g2⟩ := cell_u16 h1 k1
    obtain ⟨a3, rfl, g3⟩ := cell_u16 h1 k2
    obtain ⟨a4, rfl, g4⟩ := cell_u16 h1 k3
    exact ⟨a1, a2, a3, a4, rfl, g1, g2, g3, g4⟩

end Go.Proofs.Ytbcicjmepojlnaa.Eng
