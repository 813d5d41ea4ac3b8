/- Texts of this work, laid together: symbolic execution over the model, contracts of the program's functions, what they come to; conditions: as each says. -/
import Derived.Test.YtbcicjmepojlnaaPkZBH
/- Remap: what the reference's pages come to; no condition but those typed. -/
namespace Go.Proofs.Ytbcicjmepojlnaa.Eng
open Go Go.RowKit
set_option autoImplicit false
set_option linter.unusedSimpArgs false
set_option linter.unusedVariables false
set_option linter.unusedSectionVars false
structure FoundOk (l : List Ar) (lo hi : Int) : Prop where
  rt : Rt l
  rg : RgOk lo hi
  fd : foundL l lo = true
  en : hi ≤ (findL l lo).e
section
variable {l : List Ar} {lo hi : Int} (k : FoundOk l lo hi)
include k
theorem fd_mem : findL l lo ∈ l ∧ (findL l lo).s ≤ lo ∧ lo < (findL l lo).e ∧ Fo (findL l lo) := by
  obtain ⟨h1, h2⟩ := (found_spec k.rt lo).2 k.fd
  exact ⟨h1, h2.1, h2.2, fo.1 (k.rt.1 _ h1)⟩
theorem fd_part : partA (findL l lo) lo hi = ⟨lo, hi, (findL l lo).p, (findL l lo).sh, (findL l lo).b, offA (findL l lo) lo⟩ := by
  obtain ⟨h1, h2, h3, h4⟩ := fd_mem k
  exact (hasPart_in (fo.2 h4) h2 k.rg.lt k.en k.rg.z k.rg.z2).2.2.2
theorem fd_fo : Fo (partA (findL l lo) lo hi) := by
  obtain ⟨h1, h2, h3, h4⟩ := fd_mem k
  rw [fd_part k]
  exact fo.1 (formed_sub (fo.2 h4) h2 k.rg.lt k.en k.rg.z k.rg.z2)
end
theorem free_fits2 {l : List Ar} (hl : Rt l) {a n : Int} (h1 : 16 ≤ a) (h2 : a ≤ 512) (h3 : 1 ≤ n) (h4 : n ≤ 496) : freeS (ofL l) a n = fitsL l (4096 * a) (4096 * n) := by
  by_cases hc : a + n ≤ 512
  · have e := free_fits hl h1 (show a < a + n by omega) hc
    have e1 : a + n - a = n := by omega
    have e2 : 4096 * (a + n) - 4096 * a = 4096 * n := by omega
    rw [e1, e2] at e
    exact e
  · have e1 : freeS (ofL l) a n = false := by
      unfold freeS
      rw [if_pos]
      simp only [Bool.or_eq_true, decide_eq_true_eq]
      omega
    rw [e1]
    cases hb : fitsL l (4096 * a) (4096 * n) with
    | false => rfl
    | true =>
      have := (fits_iff hl (by unfold In64; omega) (by unfold In64; omega)).1 hb
      omega
/-! ### Flags -/
end Go.Proofs.Ytbcicjmepojlnaa.Eng
/- Remap: the reference's branches, as the program's; no condition but those typed. -/
namespace Go.Proofs.Ytbcicjmepojlnaa.Eng
open Go Go.RowKit
set_option autoImplicit false
set_option linter.unusedSimpArgs false
set_option linter.unusedVariables false
set_option linter.unusedSectionVars false
/-! ### one -/
section
variable {l : List Ar} {lo hi : Int} {i : Nat}
end
/-! ### moved -/
def mvS (l : List Ar) (st : Bool) (lo hi : Int) (o : Ar) (p n : Int) : List Ar := putL (if st = true then l else cutL l lo hi) (mvA o p n)
abbrev oldA (l : List Ar) (lo hi : Int) : Ar := partA (findL l lo) lo hi
structure MvOk (l : List Ar) (lo hi p n : Int) : Prop where
  fd : FoundOk l lo hi
  rg : RgOk p (p + n)
  fo : Fo (mvA (oldA l lo hi) p n)
section
variable {l : List Ar} {lo hi p n : Int} (k : MvOk l lo hi p n)
include k
theorem mv_w : IntKind.i64.wrap (p + n) = p + n := by
  have h1 := k.rg.lo; have h2 := k.rg.hi; have h3 := k.rg.lt
  exact w64_id (by unfold In64; omega)
end
/-! ### Flags -/
section
variable {f : Int} (h1 : decide (f < 0) = false) (h2 : decide (63 < f) = false)
include h1 h2
end
/-! ### Errors -/
section
variable {l : List Ar} {c : Cl} (hm : mayS l = true)
include hm
end
theorem rm_found {l : List Ar} {c : Cl} (h : rmE l c = 0) : FoundOk l (rmLo c) (rmHi c) := by
  obtain ⟨h1, h2, h3, h4, h5, h6, h7⟩ := rm_ok0 h
  have h7 := of_decide_eq_false h7
  exact ⟨(mayS_rt h1).1, (range_ok h3).1, h6, (by show rangeHi c.a c.n ≤ (findL l (rangeLo c.a c.n)).e; omega)⟩
theorem rm_go {l : List Ar} {c : Cl} (h : rmE l c = 0) : remN l c = remM l c ∧ remL l c = remK l c := by
  unfold remN remL
  rw [h, if_neg (by simp), if_neg (by simp)]
  exact ⟨rfl, rfl⟩
section
variable {l : List Ar} {c : Cl} (h0 : rmE l c = 0)
include h0
theorem rm_sz : SzOk (sizeV c.w) := by
  obtain ⟨h1, h2, h3, h4, _⟩ := rm_ok0 h0
  exact (size_ok h4).1
theorem rm_rg : RgOk (rmLo c) (rmHi c) := (rm_found h0).rg
theorem rm_diff : w64 (rmHi c - rmLo c) = rmHi c - rmLo c := by
  have k := rm_rg h0
  have h1 := k.lo; have h2 := k.hi; have h3 := k.lt
  exact w64_id (by unfold In64; omega)
theorem mv_fo {p : Int} (hp : RgOk p (p + sizeV c.w)) (hl : longK (rmO l c).b (rmO l c).o (sizeV c.w) = false) : MvOk l (rmLo c) (rmHi c) p (sizeV c.w) := by
  have k := rm_found h0
  have hf : Fo (rmO l c) := fd_fo k
  have hs := rm_sz h0
  have s1 := hs.lo; have s2 := hs.hi
  have h1 := hp.lo; have h2 := hp.hi; have h3 := hp.lt
  have e : w64 (p + sizeV c.w) = p + sizeV c.w := w64_id (by unfold In64; omega)
  refine ⟨k, hp, fo.1 ((formed_iff _).2 ?_)⟩
  show p % 4096 = 0 ∧ w64 (p + sizeV c.w) % 4096 = 0 ∧ 65536 ≤ p ∧ w64 (p + sizeV c.w) ≤ 2097152 ∧ p < w64 (p + sizeV c.w) ∧ 0 ≤ (rmO l c).p ∧ (rmO l c).p ≤ 7 ∧ 0 ≤ (rmO l c).b ∧ (rmO l c).b ≤ 9 ∧ _
  rw [e]
  refine ⟨hp.z, hp.z2, h1, h2, h3, hf.p0, hf.p7, hf.b0, hf.b9, hf.oz, fun hne => ?_⟩
  have hne : (rmO l c).b ≠ 0 := hne
  have ho := hf.om hne
  unfold longK at hl
  rw [show ((rmO l c).b != 0) = true by simpa using hne, Bool.true_and, decide_eq_false_iff_not, w64_id (show In64 (1099511627776 - sizeV c.w) by unfold In64; omega)] at hl
  refine ⟨ho.1, ho.2.1, ?_⟩
  show (rmO l c).o ≤ 1099511627776 - (w64 (p + sizeV c.w) - p)
  rw [e]
  omega
theorem rm_dont (hd : bitB c.f 32 = true) : sizeV c.w = rmHi c - rmLo c := by
  have h := (rm_ok0 h0).2.2.2.2.1
  rw [hd, Bool.true_and] at h
  rw [← rm_diff h0]
  exact bne_no h
theorem long_dont (hd : bitB c.f 32 = true) : longK (rmO l c).b (rmO l c).o (sizeV c.w) = false := by
  have k := rm_found h0
  have hf : Fo (rmO l c) := fd_fo k
  have hs := rm_sz h0
  have s1 := hs.lo; have s2 := hs.hi
  have hz := rm_dont h0 hd
  unfold longK
  by_cases hb : (rmO l c).b = 0
  · rw [hb]; rfl
  · have ho := hf.om hb
    have hse : (rmO l c).s = rmLo c ∧ (rmO l c).e = rmHi c := by unfold rmO; rw [fd_part k]; exact ⟨rfl, rfl⟩
    have o1 : (rmO l c).s = rmLo c := hse.1
    have o2 : (rmO l c).e = rmHi c := hse.2
    rw [w64_id (show In64 (1099511627776 - sizeV c.w) by unfold In64; omega), show decide ((rmO l c).o > 1099511627776 - sizeV c.w) = false by rw [decide_eq_false_iff_not]; omega, Bool.and_false]
end
theorem place0 {l : List Ar} (hm : mayS l = true) {n : Int} (hn : SzOk n) : (decide (chooseL l 65536 2097152 n true < 0) = true → placeE l 0 n 0 = 5) ∧ (decide (chooseL l 65536 2097152 n true < 0) = false → placeE l 0 n 0 = 0 ∧ placeV l 0 n 0 = chooseL l 65536 2097152 n true ∧ RgOk (placeV l 0 n 0) (placeV l 0 n 0 + n)) := by
  obtain ⟨n1, n2, n3⟩ := hn
  have h64 : In64 n := by unfold In64; omega
  have e : (Int.tmod (IntKind.i64.wrap (Int.tdiv 0 8)) 2 == 0) = true := by decide +kernel
  have e2 : (Int.tmod 0 2 == 1) = false := by decide +kernel
  refine ⟨fun h => ?_, fun h => ?_⟩
  · have := pl5 (l := l) (a := 0) (n := n) (f := 0) hm h64 ⟨by decide, by decide⟩ e2 (.inl rfl) (by rw [e]; exact h)
    exact this.2.symm
  · have := pl6 (l := l) (a := 0) (n := n) (f := 0) hm h64 ⟨by decide, by decide⟩ e2 (.inl rfl) (by rw [e]; exact h)
    rw [e] at this
    have hp := this.2.symm
    obtain ⟨r1, r2, r3⟩ := place_rng hm ⟨n1, n2, n3⟩ (by unfold In64; omega) hp
    exact ⟨hp, this.1.symm, ⟨r1, r2, by omega, r3, by omega⟩⟩
theorem grow_is {l : List Ar} {c : Cl} (h0 : rmE l c = 0) (hgt : ¬ sizeV c.w ≤ rmHi c - rmLo c) : fitsL l (rmHi c) (w64 (sizeV c.w - w64 (rmHi c - rmLo c))) = freeS (ofL l) (IntKind.i64.wrap (Int.tdiv (rmHi c) 4096)) (IntKind.i64.wrap (Int.tdiv (IntKind.i64.wrap (IntKind.i64.wrap (sizeV c.w - rmHi c) + rmLo c)) 4096)) ∧
    w64 (sizeV c.w - w64 (rmHi c - rmLo c)) = sizeV c.w - (rmHi c - rmLo c) := by
  have k := rm_rg h0
  have h1 := k.lo; have h2 := k.hi; have h3 := k.lt; have h4 := k.z; have h5 := k.z2
  have hs := rm_sz h0
  have s1 := hs.lo; have s2 := hs.hi; have s3 := hs.z
  rw [rm_diff h0]
  have e1 : w64 (sizeV c.w - (rmHi c - rmLo c)) = sizeV c.w - (rmHi c - rmLo c) := w64_id (by unfold In64; omega)
  have e2 : IntKind.i64.wrap (sizeV c.w - rmHi c) = sizeV c.w - rmHi c := w64_id (by unfold In64; omega)
  have e3 : IntKind.i64.wrap (sizeV c.w - rmHi c + rmLo c) = sizeV c.w - rmHi c + rmLo c := w64_id (by unfold In64; omega)
  have e4 : IntKind.i64.wrap (Int.tdiv (rmHi c) 4096) = rmHi c / 4096 := by rw [Int.tdiv_eq_ediv_of_nonneg (by omega)]; exact w64_id (by unfold In64; omega)
  have e5 : IntKind.i64.wrap (Int.tdiv (sizeV c.w - rmHi c + rmLo c) 4096) = (sizeV c.w - rmHi c + rmLo c) / 4096 := by rw [Int.tdiv_eq_ediv_of_nonneg (by omega)]; exact w64_id (by unfold In64; omega)
  refine ⟨?_, e1⟩
  rw [e1, e2, e3, e4, e5, free_fits2 (rm_found h0).rt (by omega) (by omega) (by omega) (by omega)]
  congr 1 <;> omega
end Go.Proofs.Ytbcicjmepojlnaa.Eng
/- Remap: the program's leaves; no condition but those typed. -/
namespace Go.Proofs.Ytbcicjmepojlnaa.Eng
open Go Go.RowKit
set_option autoImplicit false
set_option linter.unusedSimpArgs false
set_option linter.unusedVariables false
set_option linter.unusedSectionVars false
theorem re_0 {l : List Ar} {c : Cl} (h : (rmE l c != 0) = true) : remN l c = errA (rmE l c) ∧ remL l c = l := by
  unfold remN remL
  rw [if_pos h, if_pos h]
  exact ⟨rfl, rfl⟩
abbrev rdZ (l : List Ar) (c : Cl) : Ar := ⟨(rdO l c ⟨0, 0, 0, false, 0, 0⟩).s, (rdO l c ⟨0, 0, 0, false, 0, 0⟩).e, (rdO l c ⟨0, 0, 0, false, 0, 0⟩).p, (rdO l c ⟨0, 0, 0, false, 0, 0⟩).sh, (rdO l c ⟨0, 0, 0, false, 0, 0⟩).b, (rdO l c ⟨0, 0, 0, false, 0, 0⟩).o⟩
theorem rdZ_eq {l : List Ar} {c : Cl} (h : rmE l c = 0) : rdZ l c = rmO l c := by
  have e := (rd_ok h 0 ⟨0, 0, 0, false, 0, 0⟩).2.2.2.2
  show rdO l c ⟨0, 0, 0, false, 0, 0⟩ = _
  exact e
section
variable {l : List Ar} {c : Cl} (h : (rmE l c != 0) = false)
include h
theorem re_1 (b : bitB c.f 1 = true) : remN l c = kfN l c (rdLo l c 0) (rdHi l c 0) (rdSz l c 0) (rdZ l c) ∧ remL l c = kfL l c (rdLo l c 0) (rdHi l c 0) (rdSz l c 0) (rdZ l c) := by
  have h0 := bne_no h
  obtain ⟨e1, e2, e3, e4, e5⟩ := rd_ok h0 0 ⟨0, 0, 0, false, 0, 0⟩
  obtain ⟨q1, q2⟩ := rm_go h0
  rw [rdZ_eq h0, e1, e2, e3, q1, q2]
  unfold remM remK
  rw [if_pos b, if_pos b]
  exact ⟨rfl, rfl⟩
theorem re_2 (b : bitB c.f 1 = false) (b2 : bitB c.f 32 = true) : remN l c = kaN l c.f (rdLo l c 0) (rdHi l c 0) (rdSz l c 0) (rdZ l c) ∧ remL l c = kaL l c.f (rdLo l c 0) (rdHi l c 0) (rdSz l c 0) (rdZ l c) := by
  have h0 := bne_no h
  obtain ⟨e1, e2, e3, e4, e5⟩ := rd_ok h0 0 ⟨0, 0, 0, false, 0, 0⟩
  obtain ⟨q1, q2⟩ := rm_go h0
  rw [rdZ_eq h0, e1, e2, e3, q1, q2]
  unfold remM remK
  rw [b]
  simp only [Bool.false_eq_true, if_false]
  rw [if_pos b2, if_pos b2]
  exact ⟨rfl, rfl⟩
theorem re_3 (b : bitB c.f 1 = false) (b2 : bitB c.f 32 = false) (b3 : decide (rdSz l c 0 ≤ IntKind.i64.wrap (rdHi l c 0 - rdLo l c 0)) = true) : remN l c = keptN (cutL l (IntKind.i64.wrap (rdLo l c 0 + rdSz l c 0)) (rdHi l c 0)) (rdLo l c 0) ∧ remL l c = keptL l (cutL l (IntKind.i64.wrap (rdLo l c 0 + rdSz l c 0)) (rdHi l c 0)) := by
  have h0 := bne_no h
  obtain ⟨e1, e2, e3, e4, e5⟩ := rd_ok h0 0 ⟨0, 0, 0, false, 0, 0⟩
  obtain ⟨q1, q2⟩ := rm_go h0
  rw [e1, e2, e3] at b3 ⊢
  rw [q1, q2]
  unfold remM remK
  rw [b, b2]
  simp only [Bool.false_eq_true, if_false]
  rw [if_pos b3, if_pos b3]
  exact ⟨rfl, rfl⟩
theorem re_4 (b : bitB c.f 1 = false) (b2 : bitB c.f 32 = false) (b3 : decide (rdSz l c 0 ≤ IntKind.i64.wrap (rdHi l c 0 - rdLo l c 0)) = false) : remN l c = kgN l c.f (rdLo l c 0) (rdHi l c 0) (rdSz l c 0) (rdW l c ⟨0, 0, 0, false, 0, 0⟩).e (rdZ l c) ∧ remL l c = kgL l c.f (rdLo l c 0) (rdHi l c 0) (rdSz l c 0) (rdW l c ⟨0, 0, 0, false, 0, 0⟩).e (rdZ l c) := by
  have h0 := bne_no h
  obtain ⟨e1, e2, e3, e4, e5⟩ := rd_ok h0 0 ⟨0, 0, 0, false, 0, 0⟩
  obtain ⟨q1, q2⟩ := rm_go h0
  rw [rdZ_eq h0, e4]
  rw [e1, e2, e3] at b3 ⊢
  rw [q1, q2]
  unfold remM remK
  rw [b, b2]
  simp only [Bool.false_eq_true, if_false]
  rw [if_neg (by rw [b3]; simp), if_neg (by rw [b3]; simp)]
  exact ⟨rfl, rfl⟩
end
end Go.Proofs.Ytbcicjmepojlnaa.Eng
