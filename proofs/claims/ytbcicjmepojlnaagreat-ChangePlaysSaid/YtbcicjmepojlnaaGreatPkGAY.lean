/- Texts of this work, laid together: symbolic execution over the model, contracts of the program's functions, what they come to; conditions: as each says. -/
import Derived.Test.YtbcicjmepojlnaaGreatPkGAX
/- What the laws of layer 11 come to, in plain words; no condition but those typed. -/
namespace Go.Proofs.YtbcicjmepojlnaaGreat.Eng
open Go Go.RowKit
set_option autoImplicit false
set_option linter.unusedSimpArgs false
set_option linter.unusedVariables false
theorem pro_stay {l : List Ar} {c : Cl} (h : ((protN l c).er != 0) = true) : protL l c = l := by
  unfold protN at h
  unfold protL
  split
  · rfl
  · rename_i h1
    rw [if_neg h1] at h
    unfold keptN at h
    unfold keptL
    split
    · rfl
    · rename_i h2
      rw [if_neg h2] at h
      cases h
/-! ### A protected list -/
theorem protE_ok {p : Int} (h0 : 0 ≤ p) (h7 : p ≤ 7) : protE p = 0 := by
  unfold protE
  rw [if_neg]
  simp
  omega
theorem protE_no {p : Int} (h : ¬ (0 ≤ p ∧ p ≤ 7)) : protE p = 1 := by
  unfold protE
  rw [if_pos]
  simp
  omega
theorem wr_iff {l : List Ar} {c : Cl} (hm : mayS l = true) : wrE l c = 0 ↔ rangeE c.a c.n = 0 ∧ (0 ≤ c.p ∧ c.p ≤ 7) ∧ coveredL l (rangeLo c.a c.n) (rangeHi c.a c.n) = true := by
  unfold wrE
  rw [if_neg (by rw [hm]; simp)]
  by_cases hr : rangeE c.a c.n = 0
  · rw [if_pos (by rw [hr]; rfl)]
    by_cases hp : 0 ≤ c.p ∧ c.p ≤ 7
    · rw [if_pos (by rw [protE_ok hp.1 hp.2]; rfl), protE_ok hp.1 hp.2]
      split
      · rename_i h; exact ⟨fun _ => ⟨hr, hp, h⟩, fun _ => rfl⟩
      · rename_i h; exact ⟨fun h2 => by omega, fun h2 => absurd h2.2.2 h⟩
    · rw [if_neg (by rw [protE_no hp]; simp), protE_no hp]
      exact ⟨fun h2 => by omega, fun h2 => absurd h2.2.1 hp⟩
  · rw [if_neg (by simpa using hr)]
    exact ⟨fun h => absurd h hr, fun h => h.1⟩
theorem pro_yes {l : List Ar} {c : Cl} (hm : mayS l = true) (h : (protN l c).er = 0) : rangeE c.a c.n = 0 ∧ (0 ≤ c.p ∧ c.p ≤ 7) ∧ coveredL l (rangeLo c.a c.n) (rangeHi c.a c.n) = true ∧ protL l c = setL l (rangeLo c.a c.n) (rangeHi c.a c.n) c.p ∧ (setL l (rangeLo c.a c.n) (rangeHi c.a c.n) c.p).length ≤ 24 := by
  by_cases hw : wrE l c = 0
  · obtain ⟨h1, h2, h3⟩ := (wr_iff hm).1 hw
    obtain ⟨h4, h5⟩ := pro_ok hm hw
    refine ⟨h1, h2, h3, ?_⟩
    rw [h4] at h
    cases hd : decide ((24 : Int) < ((setL l (rangeLo c.a c.n) (rangeHi c.a c.n) c.p).length : Int)) with
    | true => rw [(kept_no (was := l) hd).2] at h; cases h
    | false =>
      rw [h5, (kept_yes (v := 0) (was := l) hd).1]
      exact ⟨rfl, by have := of_decide_eq_false hd; omega⟩
  · rw [(pro_bad rfl hw).1] at h
    exact absurd h hw
theorem pro_rt {l : List Ar} {c : Cl} (hm : mayS l = true) (h : (protN l c).er = 0) : mayS (protL l c) = true ∧ ∀ x t, x % 4096 = 0 → (Has (protL l c) x t ↔ (Has l x t ∧ ¬ Touch x (rangeLo c.a c.n) (rangeHi c.a c.n)) ∨ ∃ t0, (Has l x t0 ∧ Touch x (rangeLo c.a c.n) (rangeHi c.a c.n)) ∧ t = setT c.p t0) := by
  obtain ⟨h1, h2, h3, h4, h5⟩ := pro_yes hm h
  have hg := (range_ok h1).1
  have := hg.lo
  have := hg.hi
  have := hg.lt
  obtain ⟨s1, s2⟩ := set_spec (mayS_rt hm).1 (lo := rangeLo c.a c.n) (hi := rangeHi c.a c.n) (p := c.p) (by unfold In64; omega) (by unfold In64; omega) h2.1 h2.2
  rw [h4]
  exact ⟨rt_mayS s1 h5, s2⟩
/-! ### A fault at a page that is there -/
/-! ### ProtectAllows -/
/-! ### ProtectHalves -/
/-! ### ProtectBack -/
/-! ### Numbers that the laws reckon -/
abbrev hvN (q : Int) : Int := IntKind.i64.wrap (2 + IntKind.i64.wrap (Int.tmod q 40))
abbrev hvK (q r : Int) : Int := IntKind.i64.wrap (1 + Int.tmod (IntKind.i64.wrap r) (IntKind.i64.wrap (hvN q - 1)))
abbrev hvA (q : Int) : Int := IntKind.i64.wrap (4096 * IntKind.i64.wrap (16 + IntKind.i64.wrap (Int.tmod q 60)))
abbrev hvP (q : Int) : Int := IntKind.i64.wrap (Int.tmod q 8)
abbrev hv1 (q1 q2 q3 q4 : Int) : Cl := ⟨0, hvA q1, IntKind.i64.wrap (4096 * hvN q2), 0, 0, hvP q4, 0, 0, 0⟩
abbrev hv3 (q1 q2 q3 q4 : Int) : Cl := ⟨0, IntKind.i64.wrap (hvA q1 + IntKind.i64.wrap (4096 * hvK q2 q3)), IntKind.i64.wrap (4096 * IntKind.i64.wrap (hvN q2 - hvK q2 q3)), 0, 0, hvP q4, 0, 0, 0⟩
end Go.Proofs.YtbcicjmepojlnaaGreat.Eng
