/- '==' of two structs of numbers and bools: the steps; no condition. -/
import Derived.Test.YtjlgeoaomegbmaaEng13
namespace Go.Proofs.Ytjlgeoaomegbmaa.Eng
open Go Go.RowKit
set_option autoImplicit false
set_option linter.unusedSimpArgs false
set_option linter.unusedVariables false

variable {P : Program} {d : Nat} {xs ys : Array Value} {f : Field} {fs : List Field} {a b : Value} {r s : Bool} {w : World}

theorem sEq_cons (hn : (f.name == "_") = false) (ha : (part f.type xs f.offset).run P w = .ok a w) (hb : (part f.type ys f.offset).run P w = .ok b w) (he : (Op.equalIn d f.type a b).run P w = .ok r w) (hr : (Op.eqFields d xs ys fs).run P w = .ok s w) : (Op.eqFields d xs ys (f :: fs)).run P w = .ok (r && s) w := by
  have hn' : f.name ≠ "_" := by simpa using hn
  rw [Op.eqFields]
  simp only [if_pos hn', Sem.run_bind, ha, hb, he, Result.andThen_ok]
  cases r
  · simp
  · simpa using hr
theorem sEq_nil : (Op.eqFields d xs ys []).run P w = .ok true w := by simp [Op.eqFields]
theorem sEq_of {t : TypeId} {fs : Array Field} (hu : P.underlying t = some (.struct fs)) (hp : P.stoodInHeld t = false) (h : (Op.eqFields d xs ys fs.toList).run P w = .ok r w) : (Op.equalIn (d + 1) t (.agg xs) (.agg ys)).run P w = .ok r w := by
  have hf : P.fieldsOf t = fs := by simp [Program.fieldsOf, hu]
  rw [run_equalIn_struct (P := P) w d t xs ys (by rw [hf]; exact hu) hp, hf]
  exact h
theorem sPart_one {t : Nat} {cs : Array Value} {o : Nat} {v : Value} {k : Nat} (h : szT P t = some (false, k)) (hc : cs[o]? = some v) : (part t cs o).run P w = .ok v w := by
  simp only [part, Sem.run_bind, szT_agg h, Result.andThen_ok, Bool.false_eq_true, if_false, hc, Sem.run_pure]
theorem sPart_agg {t : Nat} {cs : Array Value} {o k : Nat} {l : Array Value} (h : szT P t = some (true, k)) (hc : cs.extract o (o + k) = l) : (part t cs o).run P w = .ok (.agg l) w := by
  obtain ⟨i, hi, hs⟩ := szT_size h
  simp only [part, Sem.run_bind, szT_agg h, Result.andThen_ok, if_true, sizeOf, typeInfo, run_program, hi, hs, Sem.run_pure, hc]
theorem sEq_int {t : Nat} {k k' : IntKind} {x y : Int} (h : intT P t = some k') : (Op.equalIn (d + 1) t (.int k x) (.int k y)).run P w = .ok (x == y) w :=
  run_equalIn_int w d t k k' x y (by unfold intT at h; split at h <;> simp_all)
theorem sEq_bool {t : Nat} {x y : Bool} (h : P.underlying t = some .bool) : (Op.equalIn (d + 1) t (.bool x) (.bool y)).run P w = .ok (x == y) w :=
  run_equalIn_bool' w d t x y h

theorem eqCells_int {k : IntKind} {ks : List LK} {xs ys : List C} {r : Bool} (h : eqCells (.int k :: ks) xs ys = some r) :
    ∃ a b xs' ys' r', xs = .v (.int k a) :: xs' ∧ ys = .v (.int k b) :: ys' ∧ eqCells ks xs' ys' = some r' ∧ r = ((a == b) && r') := by
  unfold eqCells at h
  split at h
  · rename_i h1; cases h1
  · rename_i k0 ks0 k1 a xs' k2 b ys' h1
    injection h1 with h1 h2
    injection h1 with h1
    subst h1 h2
    split at h
    · split at h
      · rename_i e1 e2
        subst e1 e2
        split at h
        · rename_i r' hr
          injection h with h
          exact ⟨a, b, xs', ys', r', rfl, rfl, hr, h.symm⟩
        · cases h
      · cases h
    · cases h
  · rename_i h1; injection h1 with h1 _; cases h1
  · cases h
theorem eqCells_bool {ks : List LK} {xs ys : List C} {r : Bool} (h : eqCells (.bool :: ks) xs ys = some r) :
    ∃ a b xs' ys' r', xs = .v (.bool a) :: xs' ∧ ys = .v (.bool b) :: ys' ∧ eqCells ks xs' ys' = some r' ∧ r = ((a == b) && r') := by
  unfold eqCells at h
  split at h
  · rename_i h1; cases h1
  · rename_i h1; injection h1 with h1 _; cases h1
  · rename_i ks0 a xs' b ys' h1
    injection h1 with h1 h2
    subst h2
    split at h
    · rename_i r' hr
      injection h with h
      exact ⟨a, b, xs', ys', r', rfl, rfl, hr, h.symm⟩
    · cases h
  · cases h
theorem eqCells_nil {xs ys : List C} {r : Bool} (h : eqCells [] xs ys = some r) : xs = [] ∧ ys = [] ∧ r = true := by
  unfold eqCells at h
  split at h
  · injection h with h; exact ⟨rfl, rfl, h.symm⟩
  · rename_i h1; cases h1
  · rename_i h1; cases h1
  · cases h

end Go.Proofs.Ytjlgeoaomegbmaa.Eng
