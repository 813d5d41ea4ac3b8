/- What the reference of layer 6 says, in plain words, and that it says what the program's layer says; no condition. -/
import Derived.Test.YtjlgeoaomegbmaaArPure
namespace Go.Proofs.Ytjlgeoaomegbmaa.Eng
open Go Go.RowKit
set_option autoImplicit false

def refBad (a : Ar) : Bool := !(decide (a.s ≥ 65536) && decide (a.e ≤ 2097152) && decide (a.s < a.e) && Int.tmod a.s 4096 == 0 && Int.tmod a.e 4096 == 0) || decide (a.p < 0) || decide (a.p > 7) || decide (a.b < 0) || decide (a.b > 9) || decide (a.o < 0) || Int.tmod a.o 4096 != 0
def refF (a : Ar) : Bool := if refBad a = true then false
  else (a.b == 0 && a.o == 0) || (decide (a.b > 0) && decide (a.o ≤ w64 (1099511627776 - w64 (a.e - a.s))))
def refHas (a : Ar) (q : Int) : Bool := if (decide (q < w64 (Int.tdiv a.s 4096)) || decide (q ≥ w64 (Int.tdiv a.e 4096))) = true then false else true
def refAttr (a : Ar) (q : Int) : At := if refHas a q = true then ⟨a.p, a.sh, a.b, if decide (a.b > 0) = true then w64 (a.o + w64 (4096 * w64 (q - w64 (Int.tdiv a.s 4096)))) else 0⟩ else noAt
def afterA (x y : At) : Bool := x.p == y.p && (x.sh == y.sh && (x.b == y.b && ((if decide (x.b > 0) = true then w64 (x.o + 4096) else x.o) == y.o && true)))

theorem whole_def (n : Int) : (Int.tmod n 4096 == 0) = whole n := rfl
theorem whole_neg (n : Int) : (Int.tmod n 4096 != 0) = !whole n := rfl
theorem refF_eq (a : Ar) : refF a = formed a := by
  rw [Bool.eq_iff_iff, formed_iff]
  unfold refF
  by_cases h : refBad a = true
  · rw [if_pos h]
    unfold refBad at h
    simp only [whole_def, whole_neg] at h
    simp only [Bool.or_eq_true, Bool.not_eq_true', ← Bool.not_eq_true, decide_eq_true_eq, Bool.and_eq_true, whole_iff] at h
    constructor
    · intro h'; cases h'
    · rintro ⟨h1, h2, h3, h4, h5, h6, h7, h8, h9, h10, h11⟩
      exfalso
      by_cases hb : a.b = 0
      · have := h10 hb; omega
      · have := h11 hb; omega
  · rw [if_neg h]
    unfold refBad at h
    simp only [whole_def, whole_neg] at h
    simp only [Bool.or_eq_true, Bool.not_eq_true', ← Bool.not_eq_true, decide_eq_true_eq, Bool.and_eq_true, whole_iff] at h
    have e1 : w64 (a.e - a.s) = a.e - a.s := w64_id (by unfold In64; omega)
    have e2 : w64 (1099511627776 - w64 (a.e - a.s)) = 1099511627776 - (a.e - a.s) := by rw [e1]; exact w64_id (by unfold In64; omega)
    rw [e2]
    simp only [Bool.or_eq_true, Bool.and_eq_true, beq_iff_eq, decide_eq_true_eq]
    constructor
    · intro h'
      refine ⟨?_, ?_, ?_, ?_, ?_, ?_, ?_, ?_, ?_, fun hb => ?_, fun hb => ⟨?_, ?_, ?_⟩⟩ <;> omega
    · rintro ⟨h1, h2, h3, h4, h5, h6, h7, h8, h9, h10, h11⟩
      by_cases hb : a.b = 0
      · exact .inl ⟨hb, h10 hb⟩
      · exact .inr ⟨by omega, (h11 hb).2.2⟩
theorem tdiv_pos {n : Int} (h : 0 ≤ n) : Int.tdiv n 4096 = n / 4096 := Int.tdiv_eq_ediv_of_nonneg h
theorem forms_key {a : Ar} {x : Int} (h : hasA a x = true) : refAttr a (IntKind.i64.wrap (Int.tdiv x 4096)) = attrA a x := by
  have hh := h
  simp only [hasA, Bool.and_eq_true, decide_eq_true_eq] at hh
  obtain ⟨⟨hf, h1⟩, h2⟩ := hh
  have hf' := (formed_iff a).1 hf
  have e1 : IntKind.i64.wrap (Int.tdiv x 4096) = x / 4096 := by
    rw [tdiv_pos (by omega)]; exact w64_id (by unfold In64; omega)
  have e2 : w64 (Int.tdiv a.s 4096) = a.s / 4096 := by
    rw [tdiv_pos (by omega)]; exact w64_id (by unfold In64; omega)
  have e3 : w64 (Int.tdiv a.e 4096) = a.e / 4096 := by
    rw [tdiv_pos (by omega)]; exact w64_id (by unfold In64; omega)
  have e4 : w64 (x - Int.tmod x 4096) = x - x % 4096 := by
    rw [tmod_pos (by omega)]; exact w64_id (by unfold In64; omega)
  have hr : refHas a (x / 4096) = true := by
    unfold refHas
    rw [e2, e3]
    have d1 : decide (x / 4096 < a.s / 4096) = false := by simp; omega
    have d2 : decide (x / 4096 ≥ a.e / 4096) = false := by simp; omega
    rw [d1, d2]
    rfl
  unfold refAttr attrA
  rw [e1, if_pos hr, if_pos h, e2, e4, offA_eq hf (by omega) (by omega)]
  by_cases hb : a.b = 0
  · rw [if_neg (by simp; omega), if_pos hb]
  · have := hf'.2.2.2.2.2.2.2.2.2.2 hb
    rw [if_pos (by simp; omega), if_neg hb, w64_id (n := x / 4096 - a.s / 4096) (by unfold In64; omega), w64_id (n := 4096 * (x / 4096 - a.s / 4096)) (by unfold In64; omega), w64_id (by unfold In64; omega)]
    congr 1
    omega
end Go.Proofs.Ytjlgeoaomegbmaa.Eng
