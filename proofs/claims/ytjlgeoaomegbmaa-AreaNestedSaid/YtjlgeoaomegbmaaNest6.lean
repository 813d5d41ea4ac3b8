/- Parts of parts, by whole pages; no condition but those typed. -/
import Derived.Test.YtjlgeoaomegbmaaGoes6
namespace Go.Proofs.Ytjlgeoaomegbmaa.Eng
open Go Go.RowKit
set_option autoImplicit false

theorem part_al {a : Ar} (h : formed a = true) {lo hi : Int} (hl : 0 ≤ lo ∧ lo ≤ 1000000000) (hl2 : lo % 4096 = 0) (hh : 0 ≤ hi ∧ hi ≤ 1000000000) (hh2 : hi % 4096 = 0) :
    hasPart a lo hi = decide (maxI a.s lo < minI a.e hi) ∧ (maxI a.s lo < minI a.e hi → partA a lo hi = ⟨maxI a.s lo, minI a.e hi, a.p, a.sh, a.b, offA a (maxI a.s lo)⟩) := by
  have hf := (formed_iff a).1 h
  have e1 : fromA a lo = maxI a.s lo := by
    unfold fromA
    rw [show maxI lo 0 = lo by unfold maxI; rw [if_neg (by omega)], floorA_eq (by omega), hl2, Int.sub_zero]
  have e2 : toA a hi = minI a.e hi := by
    unfold toA
    rcases (by omega : hi ≤ 2097152 ∨ 2097152 < hi) with h0 | h0
    · rw [ceilA_eq (by omega) h0]
      have : (-hi) % 4096 = 0 := by omega
      rw [this, Int.add_zero]
    · unfold ceilA
      rw [if_pos (by omega)]
      unfold minI
      split <;> split <;> omega
  have e3 : hasPart a lo hi = decide (maxI a.s lo < minI a.e hi) := by
    unfold hasPart
    rw [e1, e2, h]
    rw [Bool.eq_iff_iff]
    simp only [Bool.not_true, Bool.false_or, Bool.or_eq_true, decide_eq_true_eq]
    unfold maxI minI
    split
    · rename_i hc
      simp only [Bool.false_eq_true, false_iff]
      split <;> split <;> omega
    · rename_i hc
      simp only [Bool.not_eq_true', decide_eq_false_iff_not]
      omega
  refine ⟨e3, fun hlt => ?_⟩
  unfold partA
  rw [if_pos (by rw [e3]; simpa using hlt), e1, e2]
theorem nest_key {a : Ar} (h : formed a = true) {lo hi fr to : Int} (hl : 0 ≤ lo ∧ lo ≤ 1000000000) (hl2 : lo % 4096 = 0) (hh : 0 ≤ hi ∧ hi ≤ 1000000000) (hh2 : hi % 4096 = 0)
    (gl : 0 ≤ fr ∧ fr ≤ 1000000000) (gl2 : fr % 4096 = 0) (gh : 0 ≤ to ∧ to ≤ 1000000000) (gh2 : to % 4096 = 0) :
    (hasPart a lo hi = false → hasPart a (maxI lo fr) (minI hi to) = false) ∧
    (hasPart a lo hi = true → hasPart (partA a lo hi) fr to = hasPart a (maxI lo fr) (minI hi to) ∧ eqA (partA (partA a lo hi) fr to) (partA a (maxI lo fr) (minI hi to)) = true) := by
  have hf := (formed_iff a).1 h
  obtain ⟨p1, p2⟩ := part_al h hl hl2 hh hh2
  obtain ⟨q1, q2⟩ := part_al h (lo := maxI lo fr) (hi := minI hi to) (by unfold maxI; split <;> omega) (by unfold maxI; split <;> omega) (by unfold minI; split <;> omega) (by unfold minI; split <;> omega)
  rw [q1]
  constructor
  · intro hp
    rw [p1] at hp
    simp only [decide_eq_false_iff_not] at hp ⊢
    revert hp
    unfold maxI minI
    repeat' split
    all_goals omega
  · intro hp
    rw [p1] at hp
    have hp' := of_decide_eq_true hp
    have hx := p2 hp'
    have fx : formed (partA a lo hi) = true := by
      rw [hx]
      refine formed_sub h ?_ hp' ?_ ?_ ?_
      · unfold maxI; split <;> omega
      · unfold minI; split <;> omega
      · unfold maxI; split <;> omega
      · unfold minI; split <;> omega
    obtain ⟨r1, r2⟩ := part_al fx gl gl2 gh gh2
    rw [hx] at r1 r2 ⊢
    simp only at r1 r2
    have e1 : maxI (maxI a.s lo) fr = maxI a.s (maxI lo fr) := by
      unfold maxI
      repeat' split
      all_goals omega
    have e2 : minI (minI a.e hi) to = minI a.e (minI hi to) := by
      unfold minI
      repeat' split
      all_goals omega
    rw [e1, e2] at r1 r2
    refine ⟨r1, ?_⟩
    rw [eqA_iff]
    by_cases hlt : maxI a.s (maxI lo fr) < minI a.e (minI hi to)
    · rw [r2 hlt, q2 hlt]
      congr 1
      have b1 : 65536 ≤ maxI a.s lo ∧ maxI a.s lo ≤ 2097152 := by
        have : minI a.e hi ≤ a.e := by unfold minI; split <;> omega
        have : a.s ≤ maxI a.s lo := by unfold maxI; split <;> omega
        omega
      have b2 : 65536 ≤ maxI a.s (maxI lo fr) ∧ maxI a.s (maxI lo fr) ≤ 2097152 := by
        have : minI a.e (minI hi to) ≤ a.e := by unfold minI; repeat' split
                                                 all_goals omega
        have : a.s ≤ maxI a.s (maxI lo fr) := by unfold maxI; repeat' split
                                                 all_goals omega
        omega
      rw [hx] at fx
      rw [offA_eq fx (by omega) b2.2, offA_eq h (by omega) b2.2]
      simp only
      split
      · rfl
      · rename_i hb
        rw [offA_eq h (by omega) b1.2, if_neg hb]
        omega
    · have n1 : hasPart a (maxI lo fr) (minI hi to) = false := by rw [q1]; simpa using hlt
      unfold partA
      rw [if_neg (c := hasPart a (maxI lo fr) (minI hi to) = true) (by rw [n1]; simp), if_neg (by rw [r1]; simpa using hlt)]
def nv (n : Int) : Int := w64 (65536 + w64 (4096 * w64 (Int.tmod n 600)))
theorem nv_ok {n : Int} (h : 0 ≤ n ∧ n ≤ 65535) : (0 ≤ nv n ∧ nv n ≤ 1000000000) ∧ nv n % 4096 = 0 := by
  unfold nv
  rw [Int.tmod_eq_emod_of_nonneg h.1, w64_id (n := n % 600) (by unfold In64; omega), w64_id (n := 4096 * (n % 600)) (by unfold In64; omega), w64_id (by unfold In64; omega)]
  omega
theorem nest_all {a : Ar} (h : formed a = true) {n1 n2 n3 n4 : Int} (h1 : 0 ≤ n1 ∧ n1 ≤ 65535) (h2 : 0 ≤ n2 ∧ n2 ≤ 65535) (h3 : 0 ≤ n3 ∧ n3 ≤ 65535) (h4 : 0 ≤ n4 ∧ n4 ≤ 65535) :
    (hasPart a (nv n1) (nv n2) = false → hasPart a (maxI (nv n1) (nv n3)) (minI (nv n2) (nv n4)) = false) ∧
    (hasPart a (nv n1) (nv n2) = true → hasPart (partA a (nv n1) (nv n2)) (nv n3) (nv n4) = hasPart a (maxI (nv n1) (nv n3)) (minI (nv n2) (nv n4)) ∧ eqA (partA (partA a (nv n1) (nv n2)) (nv n3) (nv n4)) (partA a (maxI (nv n1) (nv n3)) (minI (nv n2) (nv n4))) = true) :=
  nest_key h (nv_ok h1).1 (nv_ok h1).2 (nv_ok h2).1 (nv_ok h2).2 (nv_ok h3).1 (nv_ok h3).2 (nv_ok h4).1 (nv_ok h4).2
end Go.Proofs.Ytjlgeoaomegbmaa.Eng
