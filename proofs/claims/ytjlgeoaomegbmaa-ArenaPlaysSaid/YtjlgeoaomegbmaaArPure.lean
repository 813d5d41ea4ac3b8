/- Plain facts on areas: what is formed, floors, parts, joins; no condition but those typed. -/
import Derived.Test.YtjlgeoaomegbmaaAr
namespace Go.Proofs.Ytjlgeoaomegbmaa.Eng
open Go Go.RowKit
set_option autoImplicit false

def In64 (n : Int) : Prop := -9223372036854775808 ≤ n ∧ n ≤ 9223372036854775807
theorem w64_id {n : Int} (h : In64 n) : w64 n = n := by
  unfold w64 IntKind.wrap
  obtain ⟨h1, h2⟩ := h
  simp only [IntKind.signed, IntKind.bits, Bool.true_and, decide_eq_true_eq, ge_iff_le]
  split <;> omega
theorem tmod_pos {n : Int} (h : 0 ≤ n) : Int.tmod n 4096 = n % 4096 := Int.tmod_eq_emod_of_nonneg h
theorem tmod_neg {n : Int} (h : n < 0) : Int.tmod n 4096 = -((-n) % 4096) := by
  have : Int.tmod n 4096 = -(Int.tmod (-n) 4096) := by rw [Int.neg_tmod]; omega
  rw [this, Int.tmod_eq_emod_of_nonneg (by omega)]
theorem whole_iff (n : Int) : whole n = true ↔ n % 4096 = 0 := by
  unfold whole
  rw [beq_iff_eq]
  rcases (by omega : n < 0 ∨ 0 ≤ n) with h | h
  · rw [tmod_neg h]; omega
  · rw [tmod_pos h]
theorem formed_iff (a : Ar) : formed a = true ↔ a.s % 4096 = 0 ∧ a.e % 4096 = 0 ∧ 65536 ≤ a.s ∧ a.e ≤ 2097152 ∧ a.s < a.e ∧ 0 ≤ a.p ∧ a.p ≤ 7 ∧ 0 ≤ a.b ∧ a.b ≤ 9 ∧
    (a.b = 0 → a.o = 0) ∧ (a.b ≠ 0 → a.o % 4096 = 0 ∧ 0 ≤ a.o ∧ a.o ≤ 1099511627776 - (a.e - a.s)) := by
  unfold formed
  split
  · rename_i h
    simp only [Bool.or_eq_true, Bool.not_eq_true', decide_eq_true_eq, ← Bool.not_eq_true, whole_iff] at h
    constructor
    · intro h'; cases h'
    · rintro ⟨h1, h2, h3, h4, h5, _⟩; omega
  · rename_i h
    simp only [Bool.or_eq_true, Bool.not_eq_true', decide_eq_true_eq, ← Bool.not_eq_true, whole_iff] at h
    split
    · rename_i h2
      simp only [Bool.or_eq_true, decide_eq_true_eq] at h2
      constructor
      · intro h'; cases h'
      · rintro ⟨_, _, _, _, _, h6, h7, h8, h9, _⟩; omega
    · rename_i h2
      simp only [Bool.or_eq_true, decide_eq_true_eq] at h2
      split
      · rename_i hb
        rw [beq_iff_eq]
        constructor
        · intro h'; refine ⟨?_, ?_, ?_, ?_, ?_, ?_, ?_, ?_, ?_, fun _ => h', fun h => absurd hb h⟩ <;> omega
        · rintro ⟨_, _, _, _, _, _, _, _, _, h, _⟩; exact h hb
      · rename_i hb
        have e1 : w64 (a.e - a.s) = a.e - a.s := w64_id (by unfold In64; omega)
        have e2 : w64 (1099511627776 - w64 (a.e - a.s)) = 1099511627776 - (a.e - a.s) := by rw [e1]; exact w64_id (by unfold In64; omega)
        rw [e2, Bool.and_eq_true, Bool.and_eq_true, whole_iff, decide_eq_true_eq, decide_eq_true_eq]
        constructor
        · rintro ⟨⟨h3, h4⟩, h5⟩; refine ⟨?_, ?_, ?_, ?_, ?_, ?_, ?_, ?_, ?_, fun h => absurd h hb, fun _ => ⟨h3, h4, h5⟩⟩ <;> omega
        · rintro ⟨_, _, _, _, _, _, _, _, _, _, h⟩; exact ⟨⟨(h hb).1, (h hb).2.1⟩, (h hb).2.2⟩
theorem floorA_eq {n : Int} (h : -4611686018427387904 ≤ n ∧ n ≤ 4611686018427387904) : floorA n = n - n % 4096 := by
  unfold floorA
  rcases (by omega : n < 0 ∨ 0 ≤ n) with h0 | h0
  · rw [tmod_neg h0, w64_id (n := -(-n % 4096) + 4096) (by unfold In64; omega), tmod_pos (by omega), w64_id (by unfold In64; omega)]
    omega
  · rw [tmod_pos h0, w64_id (n := n % 4096 + 4096) (by unfold In64; omega), tmod_pos (by omega), w64_id (by unfold In64; omega)]
    omega
theorem ceilA_eq {n : Int} (h : -4611686018427387904 ≤ n) (h2 : n ≤ 2097152) : ceilA n = n + (-n) % 4096 := by
  unfold ceilA
  rw [if_neg (by omega), w64_id (n := 0 - n) (by unfold In64; omega), floorA_eq (by omega), w64_id (by unfold In64; omega)]
  have : (0 - n) = -n := by omega
  rw [this]
  omega
theorem offA_eq {a : Ar} (h : formed a = true) {at_ : Int} (h1 : 0 ≤ at_) (h2 : at_ ≤ 2097152) : offA a at_ = if a.b = 0 then 0 else a.o + at_ - a.s := by
  have hf := (formed_iff a).1 h
  unfold offA
  split
  · rfl
  · rename_i hb
    have := hf.2.2.2.2.2.2.2.2.2.2 hb
    rw [w64_id (n := a.o + at_) (by unfold In64; omega), w64_id (by unfold In64; omega)]
theorem aw1 : formed ⟨65536, 69632, 1, false, 0, 0⟩ = true := by decide +kernel
theorem aw2 : mayA ⟨0, 0, 3, false, 0, 0⟩ 2 = true := by decide +kernel
theorem hasPart_in {a : Ar} (h : formed a = true) {lo hi : Int} (h1 : a.s ≤ lo) (h2 : lo < hi) (h3 : hi ≤ a.e) (h4 : lo % 4096 = 0) (h5 : hi % 4096 = 0) : fromA a lo = lo ∧ toA a hi = hi ∧ hasPart a lo hi = true ∧ partA a lo hi = ⟨lo, hi, a.p, a.sh, a.b, offA a lo⟩ := by
  have hf := (formed_iff a).1 h
  have e1 : fromA a lo = lo := by
    unfold fromA maxI
    rw [if_neg (by omega : ¬ 0 > lo), floorA_eq (by omega)]
    split <;> omega
  have e2 : toA a hi = hi := by
    unfold toA minI
    rw [ceilA_eq (by omega) (by omega)]
    split <;> omega
  have e3 : hasPart a lo hi = true := by
    unfold hasPart
    rw [e1, e2]
    have d1 : decide (hi ≤ a.s) = false := by simp; omega
    have d2 : decide (lo ≥ a.e) = false := by simp; omega
    have d3 : decide (lo ≥ hi) = false := by simp; omega
    simp [h, d1, d2, d3]
  refine ⟨e1, e2, e3, ?_⟩
  unfold partA
  rw [if_pos e3, e1, e2]
theorem hasPart_none {a : Ar} {lo hi : Int} (h : hi ≤ lo) : hasPart a lo hi = false := by
  unfold hasPart
  have d3 : decide (lo ≥ hi) = true := by simp; omega
  simp [d3]
theorem formed_sub {a : Ar} (h : formed a = true) {lo hi : Int} (h1 : a.s ≤ lo) (h2 : lo < hi) (h3 : hi ≤ a.e) (h4 : lo % 4096 = 0) (h5 : hi % 4096 = 0) : formed ⟨lo, hi, a.p, a.sh, a.b, offA a lo⟩ = true := by
  have hf := (formed_iff a).1 h
  rw [formed_iff, offA_eq h (by omega) (by omega)]
  obtain ⟨f1, f2, f3, f4, f5, f6, f7, f8, f9, f10, f11⟩ := hf
  refine ⟨h4, h5, by simp only; omega, by simp only; omega, h2, f6, f7, f8, f9, fun hb => if_pos hb, fun hb => ?_⟩
  have := f11 hb
  simp only
  rw [if_neg hb]
  omega
theorem back_pure {a : Ar} (h : formed a = true) {c : Int} (hc : c % 4096 = 0) (h1 : a.s < c) (h2 : c < a.e) :
    hasPart a a.s c = true ∧ hasPart a c a.e = true ∧ joinsA (partA a a.s c) (partA a c a.e) = true ∧ joinA (partA a a.s c) (partA a c a.e) = a ∧ goesA (partA a a.s c) (partA a c a.e) = true := by
  have hf := (formed_iff a).1 h
  obtain ⟨_, _, e3, e4⟩ := hasPart_in h (Int.le_refl _) h1 (by omega) hf.1 hc
  obtain ⟨_, _, e5, e6⟩ := hasPart_in h (by omega) h2 (Int.le_refl _) hc hf.2.1
  have eo : offA a a.s = a.o := by
    rw [offA_eq h (by omega) (by omega)]
    split
    · rename_i hb; exact (hf.2.2.2.2.2.2.2.2.2.1 hb).symm
    · omega
  have f1 := formed_sub h (Int.le_refl _) h1 (by omega) hf.1 hc
  have f2 := formed_sub h (by omega) h2 (Int.le_refl _) hc hf.2.1
  have hg : goesA (partA a a.s c) (partA a c a.e) = true := by
    rw [e4, e6]
    unfold goesA
    rw [f1, f2]
    have : offA a c = offA ⟨a.s, c, a.p, a.sh, a.b, offA a a.s⟩ c := by
      unfold offA
      simp only
      split
      · rfl
      · rename_i hb
        have eo' := eo
        unfold offA at eo'
        rw [if_neg hb] at eo'
        rw [eo']
    rw [← this]
    simp
  have hj : joinsA (partA a a.s c) (partA a c a.e) = true := by
    unfold joinsA
    rw [hg, e4, e6]
    simp only [Bool.true_and]
    rw [eo]
    exact h
  refine ⟨e3, e5, hj, ?_, hg⟩
  unfold joinA
  rw [if_pos hj, e4, e6]
  simp only [eo, Ar.eta]
theorem back_key {a : Ar} {at_ : Int} (h : formed a = true) (h1 : a.s < at_) (h2 : at_ < a.e) :
    (IntKind.i64.wrap (at_ - Int.tmod at_ 4096) = a.s → hasPart a a.s a.s = false ∧ hasPart a a.s a.e = true ∧ partA a a.s a.e = a) ∧
    (¬ IntKind.i64.wrap (at_ - Int.tmod at_ 4096) = a.s → hasPart a a.s (IntKind.i64.wrap (at_ - Int.tmod at_ 4096)) = true ∧ hasPart a (IntKind.i64.wrap (at_ - Int.tmod at_ 4096)) a.e = true ∧ joinsA (partA a a.s (IntKind.i64.wrap (at_ - Int.tmod at_ 4096))) (partA a (IntKind.i64.wrap (at_ - Int.tmod at_ 4096)) a.e) = true ∧ joinA (partA a a.s (IntKind.i64.wrap (at_ - Int.tmod at_ 4096))) (partA a (IntKind.i64.wrap (at_ - Int.tmod at_ 4096)) a.e) = a ∧ goesA (partA a a.s (IntKind.i64.wrap (at_ - Int.tmod at_ 4096))) (partA a (IntKind.i64.wrap (at_ - Int.tmod at_ 4096)) a.e) = true) := by
  have hf := (formed_iff a).1 h
  have hw : IntKind.i64.wrap (at_ - Int.tmod at_ 4096) = at_ - at_ % 4096 := by
    rw [tmod_pos (by omega)]
    exact w64_id (by unfold In64; omega)
  rw [hw]
  constructor
  · intro he
    obtain ⟨_, _, e3, e4⟩ := hasPart_in h (Int.le_refl _) hf.2.2.2.2.1 (Int.le_refl _) hf.1 hf.2.1
    refine ⟨hasPart_none (Int.le_refl _), e3, ?_⟩
    rw [e4, offA_eq h (by omega) (by omega)]
    split
    · rename_i hb
      have := hf.2.2.2.2.2.2.2.2.2.1 hb
      rw [← this]
    · have : a.o + a.s - a.s = a.o := by omega
      rw [this]
  · intro hne
    exact back_pure h (by omega) (by omega) (by omega)
/-- '==' of two areas, as the program has it. -/
def eqA (x y : Ar) : Bool := x.s == y.s && (x.e == y.e && (x.p == y.p && (x.sh == y.sh && (x.b == y.b && (x.o == y.o && true)))))
theorem eqA_iff (x y : Ar) : eqA x y = true ↔ x = y := by
  cases x; cases y
  simp [eqA]

end Go.Proofs.Ytjlgeoaomegbmaa.Eng
