/- Texts of this work, laid together: symbolic execution over the model, contracts of the program's functions, what they come to; conditions: as each says. -/
import Derived.Test.YtbcicjmepojlnaaPkKAL
import Derived.Test.YtbcicjmepojlnaaPkKAO
/- Remap: the reference's branches, as the program's; no condition but those typed. -/
namespace Go.Proofs.Ytbcicjmepojlnaa.Eng
open Go Go.RowKit
set_option autoImplicit false
set_option linter.unusedSimpArgs false
set_option linter.unusedVariables false
set_option linter.unusedSectionVars false
/-! ### one -/
def oneE (l : List Ar) (lo : Int) : Int := if foundL l lo = true then (findL l lo).e else 0
def oneB (l : List Ar) (lo hi : Int) : Bool := foundL l lo && decide (hi ≤ (findL l lo).e)
theorem has_ar {a : Ar} (h : Fo a) (x : Int) : hasA a x = (decide (a.s ≤ x) && decide (x < a.e)) := by
  unfold hasA
  rw [fo.2 h, Bool.true_and]
section
variable {l : List Ar} {lo hi : Int} {i : Nat}
theorem one_hit (hl : Rt l) (hx : i < l.length) (hf : ∀ j : Nat, j < i → hasA (nthA l j) lo = false) (h1 : decide ((nthA l i).s ≤ lo) = true) (h2 : decide (lo < (nthA l i).e) = true) : foundL l lo = true ∧ findL l lo = nthA l i := by
  have hh : hasA (nthA l i) lo = true := by rw [has_ar (formed_at hl.1 hx), h1, h2]; rfl
  have e := idx_yes hx hh hf
  have hd : decide (0 ≤ idxI l lo) = true := by rw [e, decide_eq_true_eq]; omega
  have e2 := (idx_lt hd).2
  have hi : idxL l lo = i := by rw [e] at e2; omega
  have hfd : foundL l lo = true := by
    unfold foundL
    rw [show decide (idxI l lo ≥ 0) = true from hd, of_rt hl]
    rfl
  refine ⟨hfd, ?_⟩
  unfold findL
  rw [if_pos hfd, hi]
theorem one_y (hl : Rt l) (hx : i < l.length) (hf : ∀ j : Nat, j < i → hasA (nthA l j) lo = false) (h1 : decide ((nthA l i).s ≤ lo) = true) (h2 : decide (lo < (nthA l i).e) = true) : (nthA l i).e = oneE l lo ∧ decide (hi ≤ (nthA l i).e) = oneB l lo hi := by
  obtain ⟨a, b⟩ := one_hit hl hx hf h1 h2
  unfold oneE oneB
  rw [a, b]
  exact ⟨rfl, (Bool.true_and _).symm⟩
theorem one_n1 (hl : Rt l) (hx : i < l.length) (h1 : decide ((nthA l i).s ≤ lo) = false) : hasA (nthA l i) lo = false := by rw [has_ar (formed_at hl.1 hx), h1]; rfl
theorem one_n2 (hl : Rt l) (hx : i < l.length) (h1 : decide (lo < (nthA l i).e) = false) : hasA (nthA l i) lo = false := by rw [has_ar (formed_at hl.1 hx), h1, Bool.and_false]
theorem one_end (hx : ¬ i < l.length) (hf : ∀ j : Nat, j < i → hasA (nthA l j) lo = false) : (0 : Int) = oneE l lo ∧ false = oneB l lo hi := by
  have e := idx_no (l := l) (x := lo) fun j hj => hf j (by omega)
  have hfd : foundL l lo = false := by
    unfold foundL
    rw [e]
    rfl
  unfold oneE oneB
  rw [hfd]
  exact ⟨rfl, rfl⟩
end
theorem IsX.ib {a a' : Int} {b b' : Bool} {H' : Heap} (h : a' = a ∧ b' = b) : IsX (.val (.tup [.c (.v (.int .i64 a)), .c (.v (.bool b))])) (.tup [.c (.v (.int .i64 a')), .c (.v (.bool b'))]) H' := by
  obtain ⟨rfl, rfl⟩ := h
  exact IsX.val_ rfl
/-! ### moved -/
def mvS (l : List Ar) (st : Bool) (lo hi : Int) (o : Ar) (p n : Int) : List Ar := putL (if st = true then l else cutL l lo hi) (mvA o p n)
abbrev oldA (l : List Ar) (lo hi : Int) : Ar := partA (findL l lo) lo hi
abbrev pgT (l : List Ar) (lo : Int) : At := (nthP (ofL l) (lo / 4096).toNat).t
structure MvOk (l : List Ar) (lo hi p n : Int) : Prop where
  fd : FoundOk l lo hi
  rg : RgOk p (p + n)
  fo : Fo (mvA (oldA l lo hi) p n)
section
variable {l : List Ar} {lo hi p n : Int} (k : MvOk l lo hi p n)
include k
theorem mv_w : IntKind.i64.wrap (p + n) = p + n := by
  have h1 := k.rg.lo; have h2 := k.rg.hi; have h3 := k.rg.lt
  exact w64_id (by unfold In64; omega)
theorem mv_page : pgT l lo = ⟨(mvA (oldA l lo hi) p n).p, (mvA (oldA l lo hi) p n).sh, (mvA (oldA l lo hi) p n).b, (mvA (oldA l lo hi) p n).o⟩ := (fd_page k.fd).2
theorem mv_stay : listS (withP ⟨(pgT l lo).p, (pgT l lo).sh, (pgT l lo).b, (pgT l lo).o⟩ (p / 4096).toNat (ofL l) ((IntKind.i64.wrap (p + n) / 4096).toNat - (p / 4096).toNat)) = mvS l true lo hi (oldA l lo hi) p n := by
  rw [mv_w k, mv_page k]
  have e := put_at (good_of k.fd.rt) k.fo (p := p) (n := n) rfl (mv_w k)
  rw [list_of k.fd.rt] at e
  exact e
theorem mv_go : listS (withP ⟨(pgT l lo).p, (pgT l lo).sh, (pgT l lo).b, (pgT l lo).o⟩ (p / 4096).toNat (woP (lo / 4096).toNat (ofL l) ((hi / 4096).toNat - (lo / 4096).toNat)) ((IntKind.i64.wrap (p + n) / 4096).toNat - (p / 4096).toNat)) = mvS l false lo hi (oldA l lo hi) p n := by
  rw [mv_w k, mv_page k]
  obtain ⟨g1, g2⟩ := wo_list k.fd.rt k.fd.rg
  have e := put_at g1 k.fo (p := p) (n := n) rfl (mv_w k)
  rw [g2] at e
  exact e
theorem mv_adr : decide (lo < 65536) = false ∧ decide (2097152 ≤ lo) = false := by
  have h1 := k.fd.rg.lo; have h2 := k.fd.rg.hi; have h3 := k.fd.rg.lt
  exact ⟨by rw [decide_eq_false_iff_not]; omega, by rw [decide_eq_false_iff_not]; omega⟩
theorem mv_side1 : 0 ≤ lo ∧ lo ≤ hi ∧ hi ≤ 2097152 := by
  have h1 := k.fd.rg.lo; have h2 := k.fd.rg.hi; have h3 := k.fd.rg.lt
  omega
theorem mv_side2 : 0 ≤ p ∧ p ≤ IntKind.i64.wrap (p + n) ∧ IntKind.i64.wrap (p + n) ≤ 2097152 := by
  rw [mv_w k]
  have h1 := k.rg.lo; have h2 := k.rg.hi; have h3 := k.rg.lt
  omega
end
theorem zero_fits {s : List Pg} (h : s.length = 512) : 0 + (encS s).length ≤ (List.replicate 512 [C.v (.bool false), .v (.int .i64 0), .v (.bool false), .v (.int .i64 0), .v (.int .i64 0)]).flatten.length := by
  rw [encS_noS, encS_len, encS_len, h, noS_len]
  omega
/-! ### Flags -/
section
variable {f : Int} (h1 : decide (f < 0) = false) (h2 : decide (63 < f) = false)
include h1 h2
theorem rmFl_ok (h3 : decide (0 < Int.tmod (IntKind.i64.wrap (Int.tdiv f 2)) 8) = false) (h4 : (Int.tmod (IntKind.i64.wrap (Int.tdiv f 16)) 2 == 1) = true ∨ ((Int.tmod f 2 == 1) = false ∧ (Int.tmod (IntKind.i64.wrap (Int.tdiv f 32)) 2 == 1) = false)) : rmFl f = 0 := by
  obtain ⟨k1, k2, k3, k4⟩ := rfl_is h1 h2
  rw [k1, k2, k3] at h4
  rw [k4, h3, if_neg]
  rcases h4 with h4 | ⟨h4, h5⟩
  · rw [h4]; simp
  · rw [h4, h5]; simp
theorem rmFl_b3 (h3 : decide (0 < Int.tmod (IntKind.i64.wrap (Int.tdiv f 2)) 8) = true) : rmFl f = 1 := by
  rw [(rfl_is h1 h2).2.2.2, h3]
  rfl
theorem rmFl_b4 (h4 : (Int.tmod (IntKind.i64.wrap (Int.tdiv f 16)) 2 == 1) = false) (h5 : (Int.tmod f 2 == 1) = true ∨ (Int.tmod (IntKind.i64.wrap (Int.tdiv f 32)) 2 == 1) = true) : rmFl f = 1 := by
  obtain ⟨k1, k2, k3, k4⟩ := rfl_is h1 h2
  rw [k2] at h4
  rw [k1, k3] at h5
  rw [k4, h4, if_pos]
  rcases h5 with h5 | h5 <;> rw [h5] <;> simp
end
/-! ### Errors -/
section
variable {l : List Ar} {c : Cl} (hm : mayS l = true)
include hm
theorem rm_bad {e : Int} (he : rmE l c = e) (h : (e != 0) = true) : remN l c = errA e ∧ remL l c = l ∧ ((remN l c).er != 0) = true := by
  have e1 : remN l c = errA e := by unfold remN; rw [he, if_pos h]
  exact ⟨e1, by unfold remL; rw [he, if_pos h], by rw [e1]; exact h⟩
theorem rmE_e0 {e : Int} (h : rmE0 c = e) (h2 : (e != 0) = true) : rmE l c = e := by unfold rmE; rw [hm, h, if_neg (by simp), if_pos h2]
theorem rmE_flag (h : rmFl c.f = 1) : rmE l c = 1 := rmE_e0 hm (by unfold rmE0; rw [h]; rfl) rfl
theorem rmE_range (h : rmFl c.f = 0) (h2 : (rangeE c.a c.n != 0) = true) : rmE l c = rangeE c.a c.n := rmE_e0 hm (by unfold rmE0; rw [h, if_neg (by simp), if_pos h2]) h2
theorem rmE_size (h : rmFl c.f = 0) (h2 : (rangeE c.a c.n != 0) = false) (h3 : (sizeE c.w != 0) = true) : rmE l c = sizeE c.w := rmE_e0 hm (by unfold rmE0; rw [h, if_neg (by simp), if_neg (by rw [h2]; simp), if_pos h3]) h3
theorem rmE_dont (h : rmFl c.f = 0) (h2 : (rangeE c.a c.n != 0) = false) (h3 : (sizeE c.w != 0) = false) (h4 : bitB c.f 32 = true) (h5 : (sizeV c.w != IntKind.i64.wrap (rangeHi c.a c.n - rangeLo c.a c.n)) = true) : rmE l c = 1 :=
  rmE_e0 hm (by unfold rmE0; rw [h, if_neg (by simp), if_neg (by rw [h2]; simp), if_neg (by rw [h3]; simp), if_pos]; rw [h4]; exact h5) rfl
theorem rmE0_ok (h : rmFl c.f = 0) (h2 : (rangeE c.a c.n != 0) = false) (h3 : (sizeE c.w != 0) = false) (h4 : bitB c.f 32 = false ∨ (sizeV c.w != IntKind.i64.wrap (rangeHi c.a c.n - rangeLo c.a c.n)) = false) : rmE0 c = 0 := by
  unfold rmE0
  rw [h, if_neg (by simp), if_neg (by rw [h2]; simp), if_neg (by rw [h3]; simp), if_neg]
  rcases h4 with h4 | h4
  · rw [h4]; simp
  · show ¬ (bitB c.f 32 && (sizeV c.w != IntKind.i64.wrap (rangeHi c.a c.n - rangeLo c.a c.n))) = true
    rw [h4]; simp
theorem rmE_none (h : rmE0 c = 0) (h2 : oneB l (rangeLo c.a c.n) (rangeHi c.a c.n) = false) : rmE l c = 7 := by
  unfold rmE
  rw [hm, h, if_neg (by simp), if_neg (by simp), if_pos]
  unfold oneB at h2
  cases hf : foundL l (rangeLo c.a c.n) with
  | false => rfl
  | true =>
    rw [hf, Bool.true_and, decide_eq_false_iff_not] at h2
    rw [Bool.or_eq_true]
    exact .inr (by rw [decide_eq_true_eq]; omega)
theorem rmE_ok (h : rmE0 c = 0) (h2 : oneB l (rangeLo c.a c.n) (rangeHi c.a c.n) = true) : rmE l c = 0 := by
  unfold oneB at h2
  rw [Bool.and_eq_true, decide_eq_true_eq] at h2
  unfold rmE
  rw [hm, h, if_neg (by simp), if_neg (by simp), if_neg]
  rw [h2.1, show decide ((findL l (rangeLo c.a c.n)).e < rangeHi c.a c.n) = false by rw [decide_eq_false_iff_not]; omega]
  simp
end
theorem rm_found {l : List Ar} {c : Cl} (h : rmE l c = 0) : FoundOk l (rmLo c) (rmHi c) := by
  obtain ⟨h1, h2, h3, h4, h5, h6, h7⟩ := rm_ok0 h
  have h7 := of_decide_eq_false h7
  exact ⟨(mayS_rt h1).1, (range_ok h3).1, h6, (by show rangeHi c.a c.n ≤ (findL l (rangeLo c.a c.n)).e; omega)⟩
theorem rm_go {l : List Ar} {c : Cl} (h : rmE l c = 0) : remN l c = remM l c ∧ remL l c = remK l c := by
  unfold remN remL
  rw [h, if_neg (by simp), if_neg (by simp)]
  exact ⟨rfl, rfl⟩
theorem rk_no {l X : List Ar} {c : Cl} {v : Int} (h1 : remN l c = keptN X v) (hn : decide ((24 : Int) < (X.length : Int)) = true) : remN l c = errA 9 ∧ ((remN l c).er != 0) = true := by
  rw [(kept_no (was := l) hn).2] at h1
  exact ⟨h1, by rw [h1]; rfl⟩
theorem rk_yes {l X : List Ar} {c : Cl} {v : Int} (h1 : remN l c = keptN X v) (h2 : remL l c = keptL l X) (hn : decide ((24 : Int) < (X.length : Int)) = false) : remN l c = okA v ∧ ((remN l c).er != 0) = false ∧ X = remL l c := by
  rw [(kept_yes (was := l) hn).2] at h1
  rw [(kept_yes (v := 0) (was := l) hn).1] at h2
  exact ⟨h1, by rw [h1]; rfl, h2.symm⟩
section
variable {l : List Ar} {c : Cl} (h0 : rmE l c = 0)
include h0
theorem rm_sz : SzOk (sizeV c.w) := by
  obtain ⟨h1, h2, h3, h4, _⟩ := rm_ok0 h0
  exact (size_ok h4).1
theorem rm_rg : RgOk (rmLo c) (rmHi c) := (rm_found h0).rg
theorem rm_diff : w64 (rmHi c - rmLo c) = rmHi c - rmLo c := by
  have k := rm_rg h0
  have h1 := k.lo; have h2 := k.hi; have h3 := k.lt
  exact w64_id (by unfold In64; omega)
theorem rm_long : longK (rmO l c).b (rmO l c).o (sizeV c.w) = ((pgT l (rmLo c)).b != 0 && decide (1099511627776 < IntKind.i64.wrap ((pgT l (rmLo c)).o + sizeV c.w))) := by
  have k := rm_found h0
  have hp := (fd_page k).2
  have hf : Fo (rmO l c) := fd_fo k
  have hs := rm_sz h0
  have s1 := hs.lo; have s2 := hs.hi
  unfold pgT
  rw [hp]
  unfold longK
  by_cases hb : (rmO l c).b = 0
  · show ((rmO l c).b != 0 && _) = ((rmO l c).b != 0 && _)
    rw [hb]
    rfl
  · have ho := hf.om hb
    have e1 := hf.lt; have e2 := hf.lo; have e3 := hf.hi
    have w1 : w64 (1099511627776 - sizeV c.w) = 1099511627776 - sizeV c.w := w64_id (by unfold In64; omega)
    have w2 : IntKind.i64.wrap ((rmO l c).o + sizeV c.w) = (rmO l c).o + sizeV c.w := w64_id (by unfold In64; omega)
    show ((rmO l c).b != 0 && decide ((rmO l c).o > w64 (1099511627776 - sizeV c.w))) = ((rmO l c).b != 0 && decide (1099511627776 < IntKind.i64.wrap ((rmO l c).o + sizeV c.w)))
    rw [w1, w2]
    congr 1
    rw [decide_eq_decide]
    omega
theorem mv_fo {p : Int} (hp : RgOk p (p + sizeV c.w)) (hl : longK (rmO l c).b (rmO l c).o (sizeV c.w) = false) : MvOk l (rmLo c) (rmHi c) p (sizeV c.w) := by
  have k := rm_found h0
  have hf : Fo (rmO l c) := fd_fo k
  have hs := rm_sz h0
  have s1 := hs.lo; have s2 := hs.hi
  have h1 := hp.lo; have h2 := hp.hi; have h3 := hp.lt
  have e : w64 (p + sizeV c.w) = p + sizeV c.w := w64_id (by unfold In64; omega)
  refine ⟨k, hp, fo.1 ((formed_iff _).2 ?_)⟩
  show p % 4096 = 0 ∧ w64 (p + sizeV c.w) % 4096 = 0 ∧ 65536 ≤ p ∧ w64 (p + sizeV c.w) ≤ 2097152 ∧ p < w64 (p + sizeV c.w) ∧ 0 ≤ (rmO l c).p ∧ (rmO l c).p ≤ 7 ∧ 0 ≤ (rmO l c).b ∧ (rmO l c).b ≤ 9 ∧ _
  rw [e]
  refine ⟨hp.z, hp.z2, h1, h2, h3, hf.p0, hf.p7, hf.b0, hf.b9, hf.oz, fun hne => ?_⟩
  have hne : (rmO l c).b ≠ 0 := hne
  have ho := hf.om hne
  unfold longK at hl
  rw [show ((rmO l c).b != 0) = true by simpa using hne, Bool.true_and, decide_eq_false_iff_not, w64_id (show In64 (1099511627776 - sizeV c.w) by unfold In64; omega)] at hl
  refine ⟨ho.1, ho.2.1, ?_⟩
  show (rmO l c).o ≤ 1099511627776 - (w64 (p + sizeV c.w) - p)
  rw [e]
  omega
theorem rm_dont (hd : bitB c.f 32 = true) : sizeV c.w = rmHi c - rmLo c := by
  have h := (rm_ok0 h0).2.2.2.2.1
  rw [hd, Bool.true_and] at h
  rw [← rm_diff h0]
  exact bne_no h
theorem long_dont (hd : bitB c.f 32 = true) : longK (rmO l c).b (rmO l c).o (sizeV c.w) = false := by
  have k := rm_found h0
  have hf : Fo (rmO l c) := fd_fo k
  have hs := rm_sz h0
  have s1 := hs.lo; have s2 := hs.hi
  have hz := rm_dont h0 hd
  unfold longK
  by_cases hb : (rmO l c).b = 0
  · rw [hb]; rfl
  · have ho := hf.om hb
    have hse : (rmO l c).s = rmLo c ∧ (rmO l c).e = rmHi c := by unfold rmO; rw [fd_part k]; exact ⟨rfl, rfl⟩
    have o1 : (rmO l c).s = rmLo c := hse.1
    have o2 : (rmO l c).e = rmHi c := hse.2
    rw [w64_id (show In64 (1099511627776 - sizeV c.w) by unfold In64; omega), show decide ((rmO l c).o > 1099511627776 - sizeV c.w) = false by rw [decide_eq_false_iff_not]; omega, Bool.and_false]
end
theorem place0 {l : List Ar} (hm : mayS l = true) {n : Int} (hn : SzOk n) : (decide (chooseL l 65536 2097152 n true < 0) = true → placeE l 0 n 0 = 5) ∧ (decide (chooseL l 65536 2097152 n true < 0) = false → placeE l 0 n 0 = 0 ∧ placeV l 0 n 0 = chooseL l 65536 2097152 n true ∧ RgOk (placeV l 0 n 0) (placeV l 0 n 0 + n)) := by
  obtain ⟨n1, n2, n3⟩ := hn
  have h64 : In64 n := by unfold In64; omega
  have e : (Int.tmod (IntKind.i64.wrap (Int.tdiv 0 8)) 2 == 0) = true := by decide +kernel
  have e2 : (Int.tmod 0 2 == 1) = false := by decide +kernel
  refine ⟨fun h => ?_, fun h => ?_⟩
  · have := pl5 (l := l) (a := 0) (n := n) (f := 0) hm h64 ⟨by decide, by decide⟩ e2 (.inl rfl) (by rw [e]; exact h)
    exact this.2.symm
  · have := pl6 (l := l) (a := 0) (n := n) (f := 0) hm h64 ⟨by decide, by decide⟩ e2 (.inl rfl) (by rw [e]; exact h)
    rw [e] at this
    have hp := this.2.symm
    obtain ⟨r1, r2, r3⟩ := place_rng hm ⟨n1, n2, n3⟩ (by unfold In64; omega) hp
    exact ⟨hp, this.1.symm, ⟨r1, r2, by omega, r3, by omega⟩⟩
theorem grow_is {l : List Ar} {c : Cl} (h0 : rmE l c = 0) (hgt : ¬ sizeV c.w ≤ rmHi c - rmLo c) : fitsL l (rmHi c) (w64 (sizeV c.w - w64 (rmHi c - rmLo c))) = freeS (ofL l) (IntKind.i64.wrap (Int.tdiv (rmHi c) 4096)) (IntKind.i64.wrap (Int.tdiv (IntKind.i64.wrap (IntKind.i64.wrap (sizeV c.w - rmHi c) + rmLo c)) 4096)) ∧
    w64 (sizeV c.w - w64 (rmHi c - rmLo c)) = sizeV c.w - (rmHi c - rmLo c) := by
  have k := rm_rg h0
  have h1 := k.lo; have h2 := k.hi; have h3 := k.lt; have h4 := k.z; have h5 := k.z2
  have hs := rm_sz h0
  have s1 := hs.lo; have s2 := hs.hi; have s3 := hs.z
  rw [rm_diff h0]
  have e1 : w64 (sizeV c.w - (rmHi c - rmLo c)) = sizeV c.w - (rmHi c - rmLo c) := w64_id (by unfold In64; omega)
  have e2 : IntKind.i64.wrap (sizeV c.w - rmHi c) = sizeV c.w - rmHi c := w64_id (by unfold In64; omega)
  have e3 : IntKind.i64.wrap (sizeV c.w - rmHi c + rmLo c) = sizeV c.w - rmHi c + rmLo c := w64_id (by unfold In64; omega)
  have e4 : IntKind.i64.wrap (Int.tdiv (rmHi c) 4096) = rmHi c / 4096 := by rw [Int.tdiv_eq_ediv_of_nonneg (by omega)]; exact w64_id (by unfold In64; omega)
  have e5 : IntKind.i64.wrap (Int.tdiv (sizeV c.w - rmHi c + rmLo c) 4096) = (sizeV c.w - rmHi c + rmLo c) / 4096 := by rw [Int.tdiv_eq_ediv_of_nonneg (by omega)]; exact w64_id (by unfold In64; omega)
  refine ⟨?_, e1⟩
  rw [e1, e2, e3, e4, e5, free_fits2 (rm_found h0).rt (by omega) (by omega) (by omega) (by omega)]
  congr 1 <;> omega
end Go.Proofs.Ytbcicjmepojlnaa.Eng
/- Remap: the program's leaves; no condition but those typed. -/
namespace Go.Proofs.Ytbcicjmepojlnaa.Eng
open Go Go.RowKit
set_option autoImplicit false
set_option linter.unusedSimpArgs false
set_option linter.unusedVariables false
set_option linter.unusedSectionVars false
theorem re_0 {l : List Ar} {c : Cl} (h : (rmE l c != 0) = true) : remN l c = errA (rmE l c) ∧ remL l c = l := by
  unfold remN remL
  rw [if_pos h, if_pos h]
  exact ⟨rfl, rfl⟩
abbrev rdZ (l : List Ar) (c : Cl) : Ar := ⟨(rdO l c ⟨0, 0, 0, false, 0, 0⟩).s, (rdO l c ⟨0, 0, 0, false, 0, 0⟩).e, (rdO l c ⟨0, 0, 0, false, 0, 0⟩).p, (rdO l c ⟨0, 0, 0, false, 0, 0⟩).sh, (rdO l c ⟨0, 0, 0, false, 0, 0⟩).b, (rdO l c ⟨0, 0, 0, false, 0, 0⟩).o⟩
theorem rdZ_eq {l : List Ar} {c : Cl} (h : rmE l c = 0) : rdZ l c = rmO l c := by
  have e := (rd_ok h 0 ⟨0, 0, 0, false, 0, 0⟩).2.2.2.2
  show rdO l c ⟨0, 0, 0, false, 0, 0⟩ = _
  exact e
section
variable {l : List Ar} {c : Cl} (h : (rmE l c != 0) = false)
include h
theorem re_1 (b : bitB c.f 1 = true) : remN l c = kfN l c (rdLo l c 0) (rdHi l c 0) (rdSz l c 0) (rdZ l c) ∧ remL l c = kfL l c (rdLo l c 0) (rdHi l c 0) (rdSz l c 0) (rdZ l c) := by
  have h0 := bne_no h
  obtain ⟨e1, e2, e3, e4, e5⟩ := rd_ok h0 0 ⟨0, 0, 0, false, 0, 0⟩
  obtain ⟨q1, q2⟩ := rm_go h0
  rw [rdZ_eq h0, e1, e2, e3, q1, q2]
  unfold remM remK
  rw [if_pos b, if_pos b]
  exact ⟨rfl, rfl⟩
theorem re_2 (b : bitB c.f 1 = false) (b2 : bitB c.f 32 = true) : remN l c = kaN l c.f (rdLo l c 0) (rdHi l c 0) (rdSz l c 0) (rdZ l c) ∧ remL l c = kaL l c.f (rdLo l c 0) (rdHi l c 0) (rdSz l c 0) (rdZ l c) := by
  have h0 := bne_no h
  obtain ⟨e1, e2, e3, e4, e5⟩ := rd_ok h0 0 ⟨0, 0, 0, false, 0, 0⟩
  obtain ⟨q1, q2⟩ := rm_go h0
  rw [rdZ_eq h0, e1, e2, e3, q1, q2]
  unfold remM remK
  rw [b]
  simp only [Bool.false_eq_true, if_false]
  rw [if_pos b2, if_pos b2]
  exact ⟨rfl, rfl⟩
theorem re_3 (b : bitB c.f 1 = false) (b2 : bitB c.f 32 = false) (b3 : decide (rdSz l c 0 ≤ IntKind.i64.wrap (rdHi l c 0 - rdLo l c 0)) = true) : remN l c = keptN (cutL l (IntKind.i64.wrap (rdLo l c 0 + rdSz l c 0)) (rdHi l c 0)) (rdLo l c 0) ∧ remL l c = keptL l (cutL l (IntKind.i64.wrap (rdLo l c 0 + rdSz l c 0)) (rdHi l c 0)) := by
  have h0 := bne_no h
  obtain ⟨e1, e2, e3, e4, e5⟩ := rd_ok h0 0 ⟨0, 0, 0, false, 0, 0⟩
  obtain ⟨q1, q2⟩ := rm_go h0
  rw [e1, e2, e3] at b3 ⊢
  rw [q1, q2]
  unfold remM remK
  rw [b, b2]
  simp only [Bool.false_eq_true, if_false]
  rw [if_pos b3, if_pos b3]
  exact ⟨rfl, rfl⟩
theorem re_4 (b : bitB c.f 1 = false) (b2 : bitB c.f 32 = false) (b3 : decide (rdSz l c 0 ≤ IntKind.i64.wrap (rdHi l c 0 - rdLo l c 0)) = false) : remN l c = kgN l c.f (rdLo l c 0) (rdHi l c 0) (rdSz l c 0) (rdW l c ⟨0, 0, 0, false, 0, 0⟩).e (rdZ l c) ∧ remL l c = kgL l c.f (rdLo l c 0) (rdHi l c 0) (rdSz l c 0) (rdW l c ⟨0, 0, 0, false, 0, 0⟩).e (rdZ l c) := by
  have h0 := bne_no h
  obtain ⟨e1, e2, e3, e4, e5⟩ := rd_ok h0 0 ⟨0, 0, 0, false, 0, 0⟩
  obtain ⟨q1, q2⟩ := rm_go h0
  rw [rdZ_eq h0, e4]
  rw [e1, e2, e3] at b3 ⊢
  rw [q1, q2]
  unfold remM remK
  rw [b, b2]
  simp only [Bool.false_eq_true, if_false]
  rw [if_neg (by rw [b3]; simp), if_neg (by rw [b3]; simp)]
  exact ⟨rfl, rfl⟩
end
end Go.Proofs.Ytbcicjmepojlnaa.Eng
/- Contracts of functions (printed by genx.py of this work): what each hands back; condition: as its 'hside' says. -/
namespace Go.Proofs.Ytbcicjmepojlnaa.Eng
open Go Go.RowKit
set_option linter.unusedVariables false
set_option linter.unusedSimpArgs false
theorem b_remap : Bodied Try.prog 86 := bodied Try.func86 rfl (by decide)
def F_remap : FunX := fun κ avs => match avs with
  | [.lst l xl, .val (.agg [.v (.int .i64 c1), .v (.int .i64 c2), .v (.int .i64 c3), .v (.int .i64 c4), .v (.int .i64 c5), .v (.int .i64 c6), .v (.int .i64 c7), .v (.int .i64 c8), .v (.int .i64 c9)])] => some (κ _ (l.length ≤ 300000), (.row 53 6 ((κ _ ((remL l (⟨c1, c2, c3, c4, c5, c6, c7, c8, c9⟩ : Cl)).length))) ((κ _ (encL (remL l (⟨c1, c2, c3, c4, c5, c6, c7, c8, c9⟩ : Cl))))) (fun x => .tup [.c x, .agg [.v (.int .i64 (κ _ ((remN l (⟨c1, c2, c3, c4, c5, c6, c7, c8, c9⟩ : Cl)).er))), .v (.int .i64 (κ _ ((remN l (⟨c1, c2, c3, c4, c5, c6, c7, c8, c9⟩ : Cl)).v))), .v (.int .i64 (κ _ ((remN l (⟨c1, c2, c3, c4, c5, c6, c7, c8, c9⟩ : Cl)).t.p))), .v (.bool (κ _ ((remN l (⟨c1, c2, c3, c4, c5, c6, c7, c8, c9⟩ : Cl)).t.sh))), .v (.int .i64 (κ _ ((remN l (⟨c1, c2, c3, c4, c5, c6, c7, c8, c9⟩ : Cl)).t.b))), .v (.int .i64 (κ _ ((remN l (⟨c1, c2, c3, c4, c5, c6, c7, c8, c9⟩ : Cl)).t.o)))]])))
  | _ => none
set_option maxRecDepth 100000 in
set_option maxHeartbeats 4000000 in
theorem k_remap (l : List Ar) (c1 : Int) (c2 : Int) (c3 : Int) (c4 : Int) (c5 : Int) (c6 : Int) (c7 : Int) (c8 : Int) (c9 : Int) (Al : Option Addr) (cl : Nat) (hside : l.length ≤ 300000) (w : World) (hl : (Ent.rd Al 6 l.length (encL l)).holds w) :
    Calls Try.prog 86 #[.slice Al l.length cl, (SV.agg [.v (.int .i64 c1), .v (.int .i64 c2), .v (.int .i64 c3), .v (.int .i64 c4), .v (.int .i64 c5), .v (.int .i64 c6), .v (.int .i64 c7), .v (.int .i64 c8), .v (.int .i64 c9)]).den] w fun e w' => ∃ v H', e = .returned v.den ∧ IsX (.row 53 6 (((remL l (⟨c1, c2, c3, c4, c5, c6, c7, c8, c9⟩ : Cl)).length)) ((encL (remL l (⟨c1, c2, c3, c4, c5, c6, c7, c8, c9⟩ : Cl)))) (fun x => .tup [.c x, .agg [.v (.int .i64 ((remN l (⟨c1, c2, c3, c4, c5, c6, c7, c8, c9⟩ : Cl)).er)), .v (.int .i64 ((remN l (⟨c1, c2, c3, c4, c5, c6, c7, c8, c9⟩ : Cl)).v)), .v (.int .i64 ((remN l (⟨c1, c2, c3, c4, c5, c6, c7, c8, c9⟩ : Cl)).t.p)), .v (.bool ((remN l (⟨c1, c2, c3, c4, c5, c6, c7, c8, c9⟩ : Cl)).t.sh)), .v (.int .i64 ((remN l (⟨c1, c2, c3, c4, c5, c6, c7, c8, c9⟩ : Cl)).t.b)), .v (.int .i64 ((remN l (⟨c1, c2, c3, c4, c5, c6, c7, c8, c9⟩ : Cl)).t.o))]])) v H' ∧ HSat w (fun _ => False) H' w' := by
  obtain ⟨κ, hκ⟩ : ∃ κ : Kp, κ = kid := ⟨_, rfl⟩
  have hH : HSat w (fun _ => False) (heapOf [(nilId, .rd none 1 0 []), (200000, .rd Al 6 (κ _ l.length) (κ _ (encL l)))]) w := by
    subst hκ
    refine HSat.reads fun p hp => ?_
    simp only [List.mem_cons, List.not_mem_nil, or_false] at hp
    rcases hp with rfl | rfl
    · exact ⟨_, _, _, _, rfl, nil_holds w⟩
    · exact ⟨_, _, _, _, rfl, hl⟩
  refine (callsP (n := 77) FTok [e_kread hκ, e_kfail hκ, e_khas hκ, e_kfixed hκ, e_kaway hκ, e_kgrow hκ, e_cut hκ, e_kept hκ] mixed [(9, [[], [], [], [], [0, 1, 2, 3], [0, 1, 2, 3], [0, 1, 2, 3], [0, 1, 2, 3], [0, 1, 2, 3, 4, 5, 6, 7], [0, 1, 2, 3, 4, 5, 6, 7], [0, 1, 2, 3, 4, 5, 6, 7], [0, 1, 2, 3, 4, 5, 6, 7], [0, 1, 2, 3], [], []]), (10, [[], [0], [0, 1], [0, 1], [0, 1], [0, 1], [0, 1, 2, 3, 4, 5], [0, 1, 2, 3, 4, 5], [0, 1, 2, 3, 4, 5], [0, 1, 2, 3, 4, 5], [0, 1], [0, 1, 2, 3, 4, 5, 6, 7, 8, 9, 10], [0, 1, 2, 3, 4, 5, 6, 7, 8, 9, 10], [0, 1, 2, 3, 4, 5, 6, 7, 8, 9, 10], [0, 1, 2, 3, 4, 5, 6, 7, 8, 9, 10], [0], [0, 1, 2, 3, 4, 5, 6, 7, 8, 9, 10, 11, 12, 13, 14, 15], [0, 1, 2, 3, 4, 5, 6, 7, 8, 9, 10, 11, 12, 13, 14, 15], [0, 1, 2, 3, 4, 5, 6, 7, 8, 9, 10, 11, 12, 13, 14, 15], [0, 1, 2, 3, 4, 5, 6, 7, 8, 9, 10, 11, 12, 13, 14, 15], [], [], [21], [], []])] Try.func86 rfl (by kernel_rfl) #[.slice Al l.length cl, (SV.agg [.v (.int .i64 c1), .v (.int .i64 c2), .v (.int .i64 c3), .v (.int .i64 c4), .v (.int .i64 c5), .v (.int .i64 c6), .v (.int .i64 c7), .v (.int .i64 c8), .v (.int .i64 c9)]).den] [(0, .c (.sl 200000 Al (κ _ l.length) cl)), (1, .agg [.v (.int .i64 c1), .v (.int .i64 c2), .v (.int .i64 c3), .v (.int .i64 c4), .v (.int .i64 c5), .v (.int .i64 c6), .v (.int .i64 c7), .v (.int .i64 c8), .v (.int .i64 c9)])] _ w rfl [.tmp 4, .cell 5 31] rfl (by simp) (by subst hκ; simp [SV.den, C.den, kid]) hH (fun v H' => IsX (.row 53 6 ((κ _ ((remL l (⟨c1, c2, c3, c4, c5, c6, c7, c8, c9⟩ : Cl)).length))) ((κ _ (encL (remL l (⟨c1, c2, c3, c4, c5, c6, c7, c8, c9⟩ : Cl))))) (fun x => .tup [.c x, .agg [.v (.int .i64 (κ _ ((remN l (⟨c1, c2, c3, c4, c5, c6, c7, c8, c9⟩ : Cl)).er))), .v (.int .i64 (κ _ ((remN l (⟨c1, c2, c3, c4, c5, c6, c7, c8, c9⟩ : Cl)).v))), .v (.int .i64 (κ _ ((remN l (⟨c1, c2, c3, c4, c5, c6, c7, c8, c9⟩ : Cl)).t.p))), .v (.bool (κ _ ((remN l (⟨c1, c2, c3, c4, c5, c6, c7, c8, c9⟩ : Cl)).t.sh))), .v (.int .i64 (κ _ ((remN l (⟨c1, c2, c3, c4, c5, c6, c7, c8, c9⟩ : Cl)).t.b))), .v (.int .i64 (κ _ ((remN l (⟨c1, c2, c3, c4, c5, c6, c7, c8, c9⟩ : Cl)).t.o)))]])) v H') hκ ?_).mono ?_
  rotate_left
  · subst hκ; intro e w' h; exact h
  intro P' hP'
  cbv
  repeat' (first | refine And.intro ?_ ?_ | (intro _; cbv) | (refine tst_mk (fun h => ?_) (fun h => ?_) <;> cbv) | (refine LookX.nil ?_; cbv) | (refine LookX.auto hκ ?_; cbv))
  all_goals (try (show Side _; refine ⟨?_⟩; subst hκ; delta kid at *; first | exact rfl | exact trivial | exact ⟨rfl, rfl, .inl rfl⟩ | exact ⟨hside, bd (cut_bd _ _ _) (by omega)⟩ | ((try dsimp only at *); (try simp only [setTo_len, noS_len, List.length_append, List.length_cons, List.length_nil, List.length_map, and_self, true_or, or_true, eq_self, true_and, and_true, Nat.zero_add, Nat.add_zero]); (first | done | omega); done)))
  all_goals (clear hH; subst hκ; delta kid at *; (try dsimp only at *))
  · have e := re_0 (c := (⟨c1, c2, c3, c4, c5, c6, c7, c8, c9⟩ : Cl)) (by with_reducible assumption)
    refine IsX.rowM rfl rfl (fun x => ?_) e.2.symm
    simp only [e.1, errA, noAt]
  · have e := re_1 (c := (⟨c1, c2, c3, c4, c5, c6, c7, c8, c9⟩ : Cl)) (by with_reducible assumption) (by with_reducible assumption)
    refine IsX.rowM rfl rfl (fun x => ?_) e.2.symm
    rw [e.1]
  · have e := re_2 (c := (⟨c1, c2, c3, c4, c5, c6, c7, c8, c9⟩ : Cl)) (by with_reducible assumption) (by with_reducible assumption) (by with_reducible assumption)
    refine IsX.rowM rfl rfl (fun x => ?_) e.2.symm
    rw [e.1]
  · have e := re_3 (c := (⟨c1, c2, c3, c4, c5, c6, c7, c8, c9⟩ : Cl)) (by with_reducible assumption) (by with_reducible assumption) (by with_reducible assumption) (by with_reducible assumption)
    refine IsX.rowM rfl rfl (fun x => ?_) e.2.symm
    rw [e.1]
  · have e := re_4 (c := (⟨c1, c2, c3, c4, c5, c6, c7, c8, c9⟩ : Cl)) (by with_reducible assumption) (by with_reducible assumption) (by with_reducible assumption) (by with_reducible assumption)
    refine IsX.rowM rfl rfl (fun x => ?_) e.2.symm
    rw [e.1]
def e_remap {κ : Kp} (hκ : κ = kid) : ESpec Try.prog := fnES [.list, .flat] b_remap F_remap hκ fun avs p r hF hp => by
  unfold F_remap at hF
  split at hF
  case h_2 => cases hF
  rename_i l xl c1 c2 c3 c4 c5 c6 c7 c8 c9
  simp only [kid, Option.some.injEq, Prod.mk.injEq] at hF
  obtain ⟨rfl, rfl⟩ := hF
  refine ⟨fun x y h => by simp [SV.den, SV.den0, h], fun vs w hR => ?_⟩
  obtain ⟨il, Al, cl, vs0, rfl, rfl, hl, hR⟩ := hR
  obtain ⟨vs1, rfl, hR⟩ := hR
  have hR' : vs1 = [] := hR
  subst hR'
  exact k_remap l c1 c2 c3 c4 c5 c6 c7 c8 c9 Al cl hp w hl
end Go.Proofs.Ytbcicjmepojlnaa.Eng
/- The break: moved twice, back, step by step; no condition but those typed. -/
namespace Go.Proofs.Ytbcicjmepojlnaa.Eng
open Go Go.RowKit
set_option autoImplicit false
set_option linter.unusedSimpArgs false
set_option linter.unusedVariables false
set_option linter.unusedSectionVars false
theorem kept_er0 {now : List Ar} {v : Int} (h : (keptN now v).er = 0) : now.length ≤ 24 ∧ keptN now v = okA v ∧ ∀ l, keptL l now = now := by
  cases hd : decide ((24 : Int) < (now.length : Int)) with
  | true => rw [(kept_no (was := []) hd).2] at h; cases h
  | false =>
    have := of_decide_eq_false hd
    exact ⟨by omega, (kept_yes (was := []) hd).2, fun l => (kept_yes (v := 0) (was := l) hd).1⟩
structure BrkOk (l : List Ar) (m w : Int) : Prop where
  may : mayS l = true
  br : BrOk m
  c : (w = 0 ∧ brkN l m w = okA m ∧ brkL l m w = l ∧ brkV l m w = m) ∨ (w ≠ 0 ∧ BrOk w ∧ (upG m < upG w → fitsL l (upG m) (w64 (upG w - upG m)) = true) ∧ (brkK l m w).length ≤ 24 ∧ brkN l m w = okA w ∧ brkL l m w = brkK l m w ∧ brkV l m w = w)
/-! ### Step by step -/
def stepP (m : Int) : List Ar := if endB m = 16 then [] else [⟨65536, 4096 * endB m, 3, false, 0, 0⟩]
theorem step_fo {m : Int} (hm : BrOk m) (h : endB m ≠ 16) : Fo (⟨65536, 4096 * endB m, 3, false, 0, 0⟩ : Ar) := by
  obtain ⟨u1, u2, u3⟩ := up_end hm
  exact brk_fo (a := 16) (by omega) (by omega) (by omega)
theorem step_rt {m : Int} (hm : BrOk m) : Rt (stepP m) ∧ (stepP m).length ≤ 1 := by
  unfold stepP
  split
  · exact ⟨rt_nil, by decide⟩
  · rename_i h
    exact ⟨⟨fm_one (fo.2 (step_fo hm h)), List.pairwise_singleton _ _⟩, Nat.le_refl _⟩
theorem step_has {m : Int} (hm : BrOk m) (x : Int) (t : At) : Has (stepP m) x t ↔ 65536 ≤ x ∧ x < 4096 * endB m ∧ t = ⟨3, false, 0, 0⟩ := by
  obtain ⟨u1, u2, u3⟩ := up_end hm
  unfold stepP
  split
  · rename_i h
    exact ⟨fun h => (Has.nil h).elim, fun h => by omega⟩
  · rename_i h
    rw [has_one]
    unfold inA ext offP
    rw [if_pos rfl]
    exact ⟨fun ⟨⟨h1, h2⟩, h3⟩ => ⟨h1, h2, h3.symm⟩, fun ⟨h1, h2, h3⟩ => ⟨⟨h1, h2⟩, h3.symm⟩⟩
theorem step_move {m w : Int} (hm : BrOk m) (hw : BrOk w) : brkE (stepP m) m w = 0 ∧ brkK (stepP m) m w = stepP w := by
  obtain ⟨u1, u2, u3⟩ := up_end hm
  obtain ⟨v1, v2, v3⟩ := up_end hw
  obtain ⟨s1, s2⟩ := step_rt hm
  have hmay : mayS (stepP m) = true := rt_mayS s1 (by omega)
  have h1 := hw.lo
  constructor
  · unfold brkE
    rw [hmay, (br_iff m).2 hm, (br_iff w).2 hw, show (w == 0) = false by rw [beq_eq_false_iff_ne]; omega]
    by_cases hc : upG m < upG w
    · have e2 : w64 (upG w - upG m) = upG w - upG m := w64_id (by unfold In64; omega)
      have hf : fitsL (stepP m) (upG m) (upG w - upG m) = true := by
        refine (fits_iff s1 (by unfold In64; omega) (by unfold In64; omega)).2 ⟨(sizeG_iff (by unfold In64; omega)).2 (by omega), by omega, by omega, by omega, ?_⟩
        intro x hx g1 g2 t ht
        have := (step_has hm x t).1 ht
        omega
      rw [e2, hf, Bool.not_true, Bool.and_false]
      rfl
    · rw [decide_eq_false hc]
      rfl
  · unfold brkK brkMv
    rw [u1, v1]
    split
    · rename_i h
      have h := of_decide_eq_true h
      have hfo := brk_fo (a := endB m) (b := endB w) u2 (by omega) (by omega)
      obtain ⟨p1, p2⟩ := put_spec s1 hfo
      refine rt_ext p1 (step_rt hw).1 fun x t hx => ?_
      rw [p2 x t hx, step_has hm, step_has hw]
      unfold inA ext offP
      rw [if_pos rfl]
      show ((4096 * endB m ≤ x ∧ x < 4096 * endB w) ∧ (⟨3, false, 0, 0⟩ : At) = t) ∨ ((65536 ≤ x ∧ x < 4096 * endB m ∧ t = ⟨3, false, 0, 0⟩) ∧ ¬ (4096 * endB m ≤ x ∧ x < 4096 * endB w)) ↔ _
      constructor
      · rintro (⟨g1, g2⟩ | ⟨⟨g1, g2, g3⟩, g4⟩)
        · exact ⟨by omega, by omega, g2.symm⟩
        · exact ⟨g1, by omega, g3⟩
      · rintro ⟨g1, g2, g3⟩
        by_cases hc : x < 4096 * endB m
        · exact .inr ⟨⟨g1, hc, g3⟩, by omega⟩
        · exact .inl ⟨by omega, g3.symm⟩
    · split
      · rename_i h0 h
        have h := of_decide_eq_true h
        obtain ⟨p1, p2⟩ := cut_spec s1 (lo := 4096 * endB w) (hi := 4096 * endB m) (by unfold In64; omega) (by unfold In64; omega)
        refine rt_ext p1 (step_rt hw).1 fun x t hx => ?_
        rw [p2 x t hx, step_has hm, step_has hw]
        unfold Touch
        constructor
        · rintro ⟨⟨g1, g2, g3⟩, g4⟩
          exact ⟨g1, by omega, g3⟩
        · rintro ⟨g1, g2, g3⟩
          exact ⟨⟨g1, by omega, g3⟩, by omega⟩
      · rename_i h0 h
        rw [decide_eq_true_eq] at h0 h
        unfold stepP
        rw [show endB m = endB w by omega]
end Go.Proofs.Ytbcicjmepojlnaa.Eng
/- Remap: what came about, page by page; no condition but those typed. -/
namespace Go.Proofs.Ytbcicjmepojlnaa.Eng
open Go Go.RowKit
set_option autoImplicit false
set_option linter.unusedSimpArgs false
set_option linter.unusedVariables false
set_option linter.unusedSectionVars false
section
variable {l : List Ar} {lo hi : Int} (k : FoundOk l lo hi)
include k
theorem old_se : (oldA l lo hi).s = lo ∧ (oldA l lo hi).e = hi := by unfold oldA; rw [fd_part k]; exact ⟨rfl, rfl⟩
theorem old_ext (x : Int) : ext (oldA l lo hi) x = ext (findL l lo) x := by
  obtain ⟨h1, h2, h3, h4⟩ := fd_mem k
  have r1 := k.rg.lo; have r2 := k.rg.hi; have r3 := k.rg.lt
  unfold oldA
  rw [fd_part k]
  unfold ext offP
  show (⟨(findL l lo).p, (findL l lo).sh, (findL l lo).b, if (findL l lo).b = 0 then 0 else offA (findL l lo) lo + x - lo⟩ : At) = _
  rw [offP_eq h4 (by omega) (by omega)]
  unfold offP
  congr 1
  split
  · rfl
  · omega
theorem has_old {x : Int} (h1 : lo ≤ x) (h2 : x < hi) : Has l x (ext (oldA l lo hi) x) := by
  obtain ⟨g1, g2, g3, g4⟩ := fd_mem k
  have := k.en
  exact ⟨_, g1, ⟨by omega, by omega⟩, (old_ext k x).symm⟩
end
theorem mv_ext (o : Ar) (p n x : Int) : ext (mvA o p n) x = ext o (x - p + o.s) := by
  unfold ext offP mvA
  show (⟨o.p, o.sh, o.b, if o.b = 0 then 0 else o.o + x - p⟩ : At) = ⟨o.p, o.sh, o.b, if o.b = 0 then 0 else o.o + (x - p + o.s) - o.s⟩
  congr 1
  split
  · rfl
  · omega
structure MvCase (l : List Ar) (c : Cl) (L : List Ar) (N : An) (p : Int) (st : Bool) : Prop where
  ok : MvOk l (rmLo c) (rmHi c) p (sizeV c.w)
  n : N = okA p
  l : L = mvS l st (rmLo c) (rmHi c) (rmO l c) p (sizeV c.w)
  le : L.length ≤ 24
structure ShCase (l : List Ar) (c : Cl) (L : List Ar) (N : An) : Prop where
  sz : sizeV c.w ≤ rmHi c - rmLo c
  n : N = okA (rmLo c)
  l : L = cutL l (rmLo c + sizeV c.w) (rmHi c)
  le : L.length ≤ 24
structure GrCase (l : List Ar) (c : Cl) (L : List Ar) (N : An) : Prop where
  sz : rmHi c - rmLo c < sizeV c.w
  rg : RgOk (rmLo c) (rmLo c + sizeV c.w)
  fo : Fo (growA (rmO l c) (rmLo c) (sizeV c.w))
  fr : FreeR l (rmHi c) (rmLo c + sizeV c.w)
  n : N = okA (rmLo c)
  l : L = putL l (growA (rmO l c) (rmLo c) (sizeV c.w))
  le : L.length ≤ 24
theorem ka_case {l : List Ar} {c : Cl} (h0 : rmE l c = 0) (hl : longK (rmO l c).b (rmO l c).o (sizeV c.w) = false) (h : (kaN l c.f (rmLo c) (rmHi c) (sizeV c.w) (rmO l c)).er = 0) :
    ∃ p st, MvCase l c (kaL l c.f (rmLo c) (rmHi c) (sizeV c.w) (rmO l c)) (kaN l c.f (rmLo c) (rmHi c) (sizeV c.w) (rmO l c)) p st := by
  have hs := rm_sz h0
  obtain ⟨p1, p2⟩ := place0 (rm_ok0 h0).1 hs
  unfold kaN at h ⊢
  unfold kaL
  by_cases hp : (placeE l 0 (sizeV c.w) 0 != 0) = true
  · rw [if_pos hp] at h
    have h : placeE l 0 (sizeV c.w) 0 = 0 := h
    rw [h] at hp
    cases hp
  · rw [if_neg hp] at h ⊢
    rw [if_neg hp]
    have hd : decide (chooseL l 65536 2097152 (sizeV c.w) true < 0) = false := by
      cases hb : decide (chooseL l 65536 2097152 (sizeV c.w) true < 0) with
      | false => rfl
      | true => rw [p1 hb] at hp; exact absurd rfl hp
    obtain ⟨_, _, hrg⟩ := p2 hd
    obtain ⟨q1, q2, q3⟩ := kept_er0 h
    exact ⟨_, bitB c.f 32, mv_fo h0 hrg hl, q2, q3 l, by rw [q3 l]; exact q1⟩
theorem grow_fo {l : List Ar} {c : Cl} (h0 : rmE l c = 0) (hr : RgOk (rmLo c) (rmLo c + sizeV c.w)) (hl : longK (rmO l c).b (rmO l c).o (sizeV c.w) = false) : Fo (growA (rmO l c) (rmLo c) (sizeV c.w)) ∧ growA (rmO l c) (rmLo c) (sizeV c.w) = mvA (rmO l c) (rmLo c) (sizeV c.w) := by
  have k := rm_found h0
  have e : (rmO l c).s = rmLo c := (old_se k).1
  have e2 : growA (rmO l c) (rmLo c) (sizeV c.w) = mvA (rmO l c) (rmLo c) (sizeV c.w) := by unfold growA mvA; rw [e]
  rw [e2]
  exact ⟨(mv_fo h0 hr hl).fo, rfl⟩
theorem grow_case {l : List Ar} {c : Cl} (h0 : rmE l c = 0) (hgt : ¬ sizeV c.w ≤ rmHi c - rmLo c) (hg : growB l (rmLo c) (rmHi c) (sizeV c.w) (rmW l c).e = true) : RgOk (rmLo c) (rmLo c + sizeV c.w) ∧ FreeR l (rmHi c) (rmLo c + sizeV c.w) := by
  have k := rm_rg h0
  have h1 := k.lo; have h2 := k.hi; have h3 := k.lt; have h4 := k.z; have h5 := k.z2
  have hs := rm_sz h0
  have s1 := hs.lo; have s2 := hs.hi; have s3 := hs.z
  unfold growB at hg
  rw [Bool.and_eq_true, (grow_is h0 hgt).2] at hg
  have f := (fits_iff (rm_found h0).rt (by unfold In64; omega) (by unfold In64; omega)).1 hg.2
  have fr := f.2.2.2.2
  rw [show rmHi c + (sizeV c.w - (rmHi c - rmLo c)) = rmLo c + sizeV c.w by omega] at fr
  exact ⟨⟨h1, by omega, by omega, h4, by omega⟩, fr⟩
theorem rem_cases {l : List Ar} {c : Cl} (h : (remN l c).er = 0) : rmE l c = 0 ∧ ((∃ p st, MvCase l c (remL l c) (remN l c) p st) ∨ ShCase l c (remL l c) (remN l c) ∨ GrCase l c (remL l c) (remN l c)) := by
  have h0 : rmE l c = 0 := by
    unfold remN at h
    by_cases hb : (rmE l c != 0) = true
    · rw [if_pos hb] at h; exact h
    · simpa using hb
  refine ⟨h0, ?_⟩
  obtain ⟨g1, g2⟩ := rm_go h0
  rw [g1] at h ⊢
  rw [g2]
  have hs := rm_sz h0
  unfold remM at h ⊢
  unfold remK
  by_cases b1 : bitB c.f 1 = true
  · rw [if_pos b1] at h ⊢
    rw [if_pos b1]
    left
    unfold kfN at h ⊢
    unfold kfL
    by_cases he : (kfE c (rmLo c) (rmHi c) (sizeV c.w) (rmO l c) != 0) = true
    · rw [if_pos he] at h
      have h : kfE c (rmLo c) (rmHi c) (sizeV c.w) (rmO l c) = 0 := h
      rw [h] at he
      cases he
    · rw [if_neg he] at h ⊢
      rw [if_neg he]
      have he : kfE c (rmLo c) (rmHi c) (sizeV c.w) (rmO l c) = 0 := by simpa using he
      have hk : rangeE c.to c.w = 0 ∧ longK (rmO l c).b (rmO l c).o (sizeV c.w) = false := by
        unfold kfE at he
        by_cases k1 : rangeE c.to c.w = 0
        · refine ⟨k1, ?_⟩
          rw [k1, if_neg (by simp)] at he
          by_cases k2 : (decide (rangeLo c.to c.w < rmHi c) && decide (rangeHi c.to c.w > rmLo c)) = true
          · rw [if_pos k2] at he; cases he
          · rw [if_neg k2] at he
            cases hl : longK (rmO l c).b (rmO l c).o (sizeV c.w) with
            | false => rfl
            | true => rw [hl] at he; cases he
        · rw [if_pos (by simpa using k1)] at he; exact absurd he k1
      obtain ⟨r1, r2, r3, r4⟩ := range_ok hk.1
      obtain ⟨q1, q2, q3⟩ := kept_er0 h
      have rg : RgOk (rangeLo c.to c.w) (rangeLo c.to c.w + sizeV c.w) := by rw [r3] at r1; rw [r2] at r1 ⊢; exact r1
      exact ⟨rangeLo c.to c.w, bitB c.f 32, mv_fo h0 rg hk.2, q2, q3 l, by rw [q3 l]; exact q1⟩
  · rw [if_neg b1] at h ⊢
    rw [if_neg b1]
    by_cases b2 : bitB c.f 32 = true
    · rw [if_pos b2] at h ⊢
      rw [if_pos b2]
      left
      exact ka_case h0 (long_dont h0 b2) h
    · rw [if_neg b2] at h ⊢
      rw [if_neg b2]
      rw [rm_diff h0] at h ⊢
      by_cases b3 : sizeV c.w ≤ rmHi c - rmLo c
      · rw [if_pos (decide_eq_true b3)] at h ⊢
        rw [if_pos (decide_eq_true b3)]
        right; left
        obtain ⟨q1, q2, q3⟩ := kept_er0 h
        have k := rm_rg h0
        have h1 := k.lo; have h2 := k.hi; have h3 := k.lt
        have s1 := hs.lo
        have e : w64 (rmLo c + sizeV c.w) = rmLo c + sizeV c.w := w64_id (by unfold In64; omega)
        rw [e] at q1 q2 ⊢
        exact ⟨b3, q2, by have := q3 l; rw [e] at this; exact this, by have := q3 l; rw [e] at this; rw [this]; exact q1⟩
      · rw [if_neg (by simpa using b3)] at h ⊢
        rw [if_neg (by simpa using b3)]
        unfold kgN at h ⊢
        unfold kgL
        cases hl : longK (rmO l c).b (rmO l c).o (sizeV c.w) with
        | true => rw [hl, if_pos rfl] at h; cases h
        | false =>
          simp only [hl, Bool.false_eq_true, if_false] at h ⊢
          by_cases hg : growB l (rmLo c) (rmHi c) (sizeV c.w) (rmW l c).e = true
          · rw [if_pos hg] at h ⊢
            rw [if_pos hg]
            right; right
            obtain ⟨q1, q2, q3⟩ := kept_er0 h
            obtain ⟨rg, fr⟩ := grow_case h0 b3 hg
            exact ⟨by omega, rg, (grow_fo h0 rg hl).1, fr, q2, q3 l, by rw [q3 l]; exact q1⟩
          · rw [if_neg hg] at h ⊢
            rw [if_neg hg]
            by_cases b4 : bitB c.f 16 = true
            · rw [if_pos b4] at h ⊢
              rw [if_pos b4]
              left
              exact ka_case h0 hl h
            · rw [if_neg b4] at h
              cases h
theorem rem_pages {l : List Ar} {c : Cl} (h : (remN l c).er = 0) : rmE l c = 0 ∧ RgOk (remN l c).v ((remN l c).v + sizeV c.w) ∧ mayS (remL l c) = true ∧
    (∀ x, x % 4096 = 0 → (remN l c).v ≤ x → x < (remN l c).v + sizeV c.w → ∃ t, Has (remL l c) x t ∧ (x - (remN l c).v < rmHi c - rmLo c → Has l (x - (remN l c).v + rmLo c) t)) ∧
    ∀ x t, x % 4096 = 0 → ¬ ((remN l c).v ≤ x ∧ x < (remN l c).v + sizeV c.w) → ¬ (rmLo c ≤ x ∧ x < rmHi c) → (Has (remL l c) x t ↔ Has l x t) := by
  obtain ⟨h0, hc⟩ := rem_cases h
  have k := rm_found h0
  have kr : RgOk (rmLo c) (rmHi c) := k.rg
  have h1 := kr.lo; have h2 := kr.hi; have h3 := kr.lt; have h4 := kr.z; have h5 := kr.z2
  have hs := rm_sz h0
  have s1 := hs.lo; have s2 := hs.hi; have s3 := hs.z
  refine ⟨h0, ?_⟩
  rcases hc with ⟨p, st, ok, en, el, le⟩ | ⟨sz, en, el, le⟩ | ⟨sz, rg, gf, fr, en, el, le⟩
  · have hl' : Rt (if st = true then l else cutL l (rmLo c) (rmHi c)) ∧ ∀ x t, x % 4096 = 0 → (Has (if st = true then l else cutL l (rmLo c) (rmHi c)) x t ↔ Has l x t ∧ (st = false → ¬ Touch x (rmLo c) (rmHi c))) := by
      cases st with
      | true =>
        rw [if_pos rfl]
        exact ⟨k.rt, fun x t hx => ⟨fun h => ⟨h, fun hh => by cases hh⟩, fun h => h.1⟩⟩
      | false =>
        rw [if_neg (by simp)]
        obtain ⟨c1, c2⟩ := cut_spec k.rt (lo := rmLo c) (hi := rmHi c) (by unfold In64; omega) (by unfold In64; omega)
        exact ⟨c1, fun x t hx => (c2 x t hx).trans ⟨fun h => ⟨h.1, fun _ => h.2⟩, fun h => ⟨h.1, h.2 rfl⟩⟩⟩
    obtain ⟨p1, p2⟩ := put_spec hl'.1 ok.fo
    have ev : (remN l c).v = p := by rw [en]; rfl
    have eL : remL l c = putL (if st = true then l else cutL l (rmLo c) (rmHi c)) (mvA (rmO l c) p (sizeV c.w)) := el
    have we : w64 (p + sizeV c.w) = p + sizeV c.w := mv_w ok
    have hin : ∀ x, inA (mvA (rmO l c) p (sizeV c.w)) x ↔ p ≤ x ∧ x < p + sizeV c.w := fun x => by
      unfold inA mvA
      show p ≤ x ∧ x < w64 (p + sizeV c.w) ↔ _
      rw [we]
    rw [ev, eL]
    refine ⟨ok.rg, rt_mayS p1 (by rw [← eL]; exact le), fun x hx g1 g2 => ⟨ext (mvA (rmO l c) p (sizeV c.w)) x, (p2 x _ hx).2 (.inl ⟨(hin x).2 ⟨g1, g2⟩, rfl⟩), fun hlt => ?_⟩, fun x t hx g1 g2 => ?_⟩
    · rw [mv_ext, show (rmO l c).s = rmLo c from (old_se k).1]
      exact has_old k (by omega) (by omega)
    · rw [p2 x t hx, hin, hl'.2 x t hx]
      have hnt : ¬ Touch x (rmLo c) (rmHi c) := fun ht => g2 ⟨by have := ht.2.1; omega, ht.2.2⟩
      exact ⟨fun hh => hh.elim (fun h => absurd h.1 g1) fun h => h.1.1, fun hh => .inr ⟨⟨hh, fun _ => hnt⟩, g1⟩⟩
  · have ev : (remN l c).v = rmLo c := by rw [en]; rfl
    obtain ⟨c1, c2⟩ := cut_spec k.rt (lo := rmLo c + sizeV c.w) (hi := rmHi c) (by unfold In64; omega) (by unfold In64; omega)
    rw [ev]
    refine ⟨⟨h1, by omega, by omega, h4, by omega⟩, ?_, fun x hx g1 g2 => ⟨ext (rmO l c) x, ?_, fun hlt => ?_⟩, fun x t hx g1 g2 => ?_⟩
    · rw [el]; exact rt_mayS c1 (by rw [← el]; exact le)
    · rw [el, c2 x _ hx]
      exact ⟨has_old k g1 (by omega), fun ht => by have := ht.2.1; omega⟩
    · rw [show x - rmLo c + rmLo c = x by omega]
      exact has_old k g1 (by omega)
    · rw [el, c2 x t hx]
      exact ⟨fun hh => hh.1, fun hh => ⟨hh, fun ht => g2 ⟨by have := ht.2.1; omega, ht.2.2⟩⟩⟩
  · have ev : (remN l c).v = rmLo c := by rw [en]; rfl
    obtain ⟨p1, p2⟩ := put_spec k.rt gf
    have eo : (rmO l c).s = rmLo c := (old_se k).1
    have eg : growA (rmO l c) (rmLo c) (sizeV c.w) = mvA (rmO l c) (rmLo c) (sizeV c.w) := by unfold growA mvA; rw [eo]
    have we : w64 (rmLo c + sizeV c.w) = rmLo c + sizeV c.w := w64_id (by unfold In64; omega)
    have hin : ∀ x, inA (growA (rmO l c) (rmLo c) (sizeV c.w)) x ↔ rmLo c ≤ x ∧ x < rmLo c + sizeV c.w := fun x => by
      rw [eg]
      unfold inA mvA
      show rmLo c ≤ x ∧ x < w64 (rmLo c + sizeV c.w) ↔ _
      rw [we]
    rw [ev]
    refine ⟨rg, ?_, fun x hx g1 g2 => ⟨ext (growA (rmO l c) (rmLo c) (sizeV c.w)) x, ?_, fun hlt => ?_⟩, fun x t hx g1 g2 => ?_⟩
    · rw [el]; exact rt_mayS p1 (by rw [← el]; exact le)
    · rw [el]; exact (p2 x _ hx).2 (.inl ⟨(hin x).2 ⟨g1, g2⟩, rfl⟩)
    · rw [eg, mv_ext, eo]
      exact has_old k (by omega) (by omega)
    · rw [el, p2 x t hx, hin]
      exact ⟨fun hh => hh.elim (fun h => absurd h.1 g1) fun h => h.1, fun hh => .inr ⟨hh, g1⟩⟩
end Go.Proofs.Ytbcicjmepojlnaa.Eng
/- Remap: a range that stays; an area there and back; no condition but those typed. -/
namespace Go.Proofs.Ytbcicjmepojlnaa.Eng
open Go Go.RowKit
set_option autoImplicit false
set_option linter.unusedSimpArgs false
set_option linter.unusedVariables false
set_option linter.unusedSectionVars false
theorem found_mem {l : List Ar} (hl : Rt l) {a : Ar} (ha : a ∈ l) {x : Int} (hx : inA a x) : foundL l x = true ∧ findL l x = a := by
  obtain ⟨h1, h2⟩ := found_spec hl x
  have hf := h1.2 ⟨a, ha, hx⟩
  obtain ⟨h3, h4⟩ := h2 hf
  exact ⟨hf, rt_disj hl.ok h3 ha h4 hx⟩
theorem ar_rg {a : Ar} (h : Fo a) : RgOk a.s a.e := ⟨h.lo, h.hi, h.lt, h.s0, h.e0⟩
theorem rg_sz {lo hi : Int} (h : RgOk lo hi) : SzOk (hi - lo) := by
  have h1 := h.lo; have h2 := h.hi; have h3 := h.lt; have h4 := h.z; have h5 := h.z2
  exact ⟨by omega, by omega, by omega⟩
theorem off_self {a : Ar} (h : Fo a) : offA a a.s = a.o := by
  have h1 := h.lo; have h2 := h.hi; have h3 := h.lt
  rw [offP_eq h (by omega) (by omega), offP_s h]
theorem old_self {l : List Ar} {a : Ar} (k : FoundOk l a.s a.e) (hf : findL l a.s = a) (h : Fo a) : partA (findL l a.s) a.s a.e = a := by
  rw [fd_part k, hf, off_self h]
theorem rm_whole {l : List Ar} (hm : mayS l = true) {lo hi : Int} (k : FoundOk l lo hi) {c : Cl} (h1 : c.a = lo) (h2 : c.n = hi - lo) (h3 : c.w = hi - lo) (h4 : rmFl c.f = 0) : rmE l c = 0 ∧ rmLo c = lo ∧ rmHi c = hi ∧ sizeV c.w = hi - lo := by
  obtain ⟨r1, r2, r3⟩ := range_self k.rg
  obtain ⟨s1, s2⟩ := size_self (rg_sz k.rg)
  have g1 := k.rg.lo; have g2 := k.rg.hi; have g3 := k.rg.lt
  have e1 : rangeE c.a c.n = 0 := by rw [h1, h2]; exact r1
  have e2 : rangeLo c.a c.n = lo := by rw [h1, h2]; exact r2
  have e3 : rangeHi c.a c.n = hi := by rw [h1, h2]; exact r3
  have e4 : sizeE c.w = 0 := by rw [h3]; exact s1
  have e5 : sizeV c.w = hi - lo := by rw [h3]; exact s2
  have e6 : IntKind.i64.wrap (hi - lo) = hi - lo := w64_id (by unfold In64; omega)
  refine ⟨?_, e2, e3, e5⟩
  refine rmE_ok hm (rmE0_ok hm h4 (by rw [e1]; rfl) (by rw [e4]; rfl) (.inr (by rw [e2, e3, e5, e6]; simp))) ?_
  unfold oneB
  rw [e2, e3, k.fd, Bool.true_and, decide_eq_true_eq]
  exact k.en
theorem stays_law {l : List Ar} (hm : mayS l = true) {a : Ar} (ha : a ∈ l) {c : Cl} (h1 : c.a = a.s) (h2 : c.n = a.e - a.s) (h3 : c.w = a.e - a.s) (h4 : c.f = 0) : remN l c = okA a.s ∧ remL l c = l := by
  obtain ⟨hrt, h24⟩ := mayS_rt hm
  have fa := fo.1 (hrt.1 a ha)
  have g1 := fa.lo; have g2 := fa.hi; have g3 := fa.lt
  obtain ⟨f1, f2⟩ := found_mem hrt ha (x := a.s) ⟨Int.le_refl _, fa.lt⟩
  have k : FoundOk l a.s a.e := ⟨hrt, ar_rg fa, f1, by rw [f2]; omega⟩
  obtain ⟨e0, e1, e2, e3⟩ := rm_whole hm k h1 h2 h3 (by rw [h4]; decide +kernel)
  obtain ⟨q1, q2⟩ := rm_go e0
  have b1 : bitB c.f 1 = false := by rw [h4]; decide +kernel
  have b2 : bitB c.f 32 = false := by rw [h4]; decide +kernel
  have w1 : w64 (a.e - a.s) = a.e - a.s := w64_id (by unfold In64; omega)
  have w2 : w64 (a.s + (a.e - a.s)) = a.e := (w64_id (by unfold In64; omega)).trans (by omega)
  have hc : cutL l a.e a.e = l := by rw [← cut_all (of_rt hrt) (by rw [decide_eq_true_eq]; omega), List.append_nil]
  have hd : decide ((24 : Int) < (l.length : Int)) = false := by rw [decide_eq_false_iff_not]; omega
  rw [q1, q2]
  unfold remM remK
  rw [b1, b2, e1, e2, e3, w1, w2, hc]
  simp only [Bool.false_eq_true, if_false]
  rw [if_pos (by rw [decide_eq_true_eq]; omega), if_pos (by rw [decide_eq_true_eq]; omega), (kept_yes (was := l) hd).2, (kept_yes (v := 0) (was := l) hd).1]
  exact ⟨rfl, rfl⟩
/-! ### There and back -/
theorem filt_len {α : Type} (p : α → Bool) : ∀ l : List α, (l.filter p).length + (l.filter fun x => !p x).length = l.length
  | [] => rfl
  | x :: r => by
    have := filt_len p r
    rw [List.filter_cons, List.filter_cons]
    cases p x <;> simp <;> omega
theorem swap_len {l : List Ar} (hl : Rt l) {a b : Ar} (ha : a ∈ l) (hb : Fo b) (hf : ∀ d ∈ l, ¬ (b.s < d.e ∧ d.s < b.e)) : (putL (cutL l a.s a.e) b).length ≤ l.length := by
  have fa := fo.1 (hl.1 a ha)
  obtain ⟨i1, i2⟩ := fo_in fa
  obtain ⟨c1, c2⟩ := cut_spec hl i1 i2
  obtain ⟨p1, p2⟩ := put_spec c1 hb
  have hx : ∀ d ∈ l.filter (fun d => d.s != a.s), d ∈ l ∧ d.s ≠ a.s := fun d hd => by
    obtain ⟨h1, h2⟩ := List.mem_filter.1 hd
    exact ⟨h1, bne_yes h2⟩
  have hlt : (l.filter (fun d => d.s != a.s)).length < l.length := List.length_filter_lt_length_iff_exists.2 ⟨a, ha, by simp⟩
  have hok := hl.ok
  have ox : (l.filter (fun d => d.s != a.s)).Pairwise (fun a b => a.e ≤ b.s) := hok.2.sublist List.filter_sublist
  have sp := filt_len (fun d : Ar => decide (d.e ≤ b.s)) (l.filter (fun d => d.s != a.s))
  have hbl := hb.lt
  have m1 : ∀ d ∈ (l.filter (fun d => d.s != a.s)).filter (fun d : Ar => decide (d.e ≤ b.s)), d ∈ l.filter (fun d => d.s != a.s) ∧ d.e ≤ b.s := fun d hd => by
    obtain ⟨h1, h2⟩ := List.mem_filter.1 hd
    exact ⟨h1, of_decide_eq_true h2⟩
  have m2 : ∀ d ∈ (l.filter (fun d => d.s != a.s)).filter (fun d : Ar => !decide (d.e ≤ b.s)), d ∈ l.filter (fun d => d.s != a.s) ∧ b.e ≤ d.s := fun d hd => by
    obtain ⟨h1, h2⟩ := List.mem_filter.1 hd
    rw [Bool.not_eq_true', decide_eq_false_iff_not] at h2
    refine ⟨h1, ?_⟩
    have := hf d (hx d h1).1
    omega
  have hM : Ok ((l.filter (fun d => d.s != a.s)).filter (fun d : Ar => decide (d.e ≤ b.s)) ++ ([b] ++ (l.filter (fun d => d.s != a.s)).filter (fun d : Ar => !decide (d.e ≤ b.s)))) := by
    refine ⟨fun d hd => ?_, ?_⟩
    · rcases List.mem_append.1 hd with h | h
      · exact hl.1 d (hx d (m1 d h).1).1
      · rcases List.mem_append.1 h with h | h
        · rw [List.mem_singleton.1 h]; exact fo.2 hb
        · exact hl.1 d (hx d (m2 d h).1).1
    · rw [List.pairwise_append]
      refine ⟨ox.sublist List.filter_sublist, ?_, fun d hd e he => ?_⟩
      · rw [List.pairwise_append]
        refine ⟨List.pairwise_singleton _ _, ox.sublist List.filter_sublist, fun d hd e he => ?_⟩
        rw [List.mem_singleton.1 hd]
        exact (m2 e he).2
      · have h1 := (m1 d hd).2
        rcases List.mem_append.1 he with h | h
        · rw [List.mem_singleton.1 h]; exact h1
        · have := (m2 e h).2
          omega
  have hlen : ((l.filter (fun d => d.s != a.s)).filter (fun d : Ar => decide (d.e ≤ b.s)) ++ ([b] ++ (l.filter (fun d => d.s != a.s)).filter (fun d : Ar => !decide (d.e ≤ b.s)))).length ≤ l.length := by
    rw [List.length_append, List.length_append]
    have : [b].length = 1 := rfl
    omega
  refine Nat.le_trans (rt_short p1 hM fun x t hx' => ?_) hlen
  rw [p2 x t hx', c2 x t hx', touch_ar fa hx', has_app, has_app, has_one]
  have key : (Has ((l.filter (fun d => d.s != a.s)).filter (fun d : Ar => decide (d.e ≤ b.s))) x t ∨ Has ((l.filter (fun d => d.s != a.s)).filter (fun d : Ar => !decide (d.e ≤ b.s))) x t) ↔ Has l x t ∧ ¬ inA a x := by
    constructor
    · intro h
      have h2 : ∃ d ∈ l.filter (fun d => d.s != a.s), inA d x ∧ ext d x = t := by
        rcases h with ⟨d, hd, h⟩ | ⟨d, hd, h⟩
        · exact ⟨d, (m1 d hd).1, h⟩
        · exact ⟨d, (m2 d hd).1, h⟩
      obtain ⟨d, hd, h3, h4⟩ := h2
      refine ⟨⟨d, (hx d hd).1, h3, h4⟩, fun h5 => (hx d hd).2 ?_⟩
      rw [rt_disj hok (hx d hd).1 ha h3 h5]
    · rintro ⟨⟨d, hd, h3, h4⟩, h5⟩
      have hne : d.s ≠ a.s := fun he => by
        have fd := fo.1 (hl.1 d hd)
        have : d = a := rt_disj hok hd ha (x := d.s) ⟨Int.le_refl _, fd.lt⟩ ⟨by omega, by have := fa.lt; omega⟩
        subst this
        exact h5 h3
      have hd2 : d ∈ l.filter (fun d => d.s != a.s) := List.mem_filter.2 ⟨hd, by simpa using hne⟩
      by_cases hc : d.e ≤ b.s
      · exact .inl ⟨d, List.mem_filter.2 ⟨hd2, decide_eq_true hc⟩, h3, h4⟩
      · exact .inr ⟨d, List.mem_filter.2 ⟨hd2, by rw [decide_eq_false hc]; rfl⟩, h3, h4⟩
  have hdis : ∀ t', Has l x t' → ¬ inA b x := fun t' ⟨d, hd, h1, _⟩ h2 => hf d hd ⟨by have := h1.2; have := h2.1; omega, by have := h1.1; have := h2.2; omega⟩
  constructor
  · rintro (h | ⟨h, h2⟩)
    · exact .inr (.inl h)
    · rcases key.2 h with h3 | h3
      · exact .inl h3
      · exact .inr (.inr h3)
  · rintro (h | h | h)
    · have := key.1 (.inl h)
      exact .inr ⟨this, hdis t this.1⟩
    · exact .inl h
    · have := key.1 (.inr h)
      exact .inr ⟨this, hdis t this.1⟩
theorem one_area {l : List Ar} (hl : Rt l) {a : Ar} (ha : Fo a) (h : ∀ x, x % 4096 = 0 → inA a x → Has l x (ext a x)) : ∃ d ∈ l, d.s ≤ a.s ∧ a.e ≤ d.e ∧ ∀ y, ext d y = ext a y := by
  have a1 := ha.s0; have a2 := ha.e0; have a3 := ha.lt
  obtain ⟨d, hd, h1, h2⟩ := h a.s a1 ⟨Int.le_refl _, a3⟩
  have hall : ∀ y, ext d y = ext a y := fun y => ext_all h2
  refine ⟨d, hd, h1.1, ?_, hall⟩
  by_cases hc : a.e ≤ d.e
  · exact hc
  · exfalso
    have fd := fo.1 (hl.1 d hd)
    have d0 := fd.e0; have d1 := h1.2
    obtain ⟨e, he, g1, g2⟩ := h d.e d0 ⟨by omega, by omega⟩
    have fe := fo.1 (hl.1 e he)
    have e0 := fe.s0
    have hs : e.s = d.e := by
      by_cases hlt : e.s < d.e
      · have dz := fd.s0
        have : d = e := rt_disj hl.ok hd he (x := d.e - 4096) ⟨by have := fd.lt; omega, by omega⟩ ⟨by omega, by have := g1.2; omega⟩
        subst this
        have := g1.2
        omega
      · have := g1.1
        omega
    have hg : goesA d e = true := goes_ext.2 ⟨fd, fe, hs.symm, by rw [hs, hall, g2]⟩
    have hpw := hl.2
    have hne : d ≠ e := fun hh => by subst hh; have := g1.2; omega
    have key : ∀ {L : List Ar}, L.Pairwise (fun a b => a.e ≤ b.s ∧ goesA a b = false) → d ∈ L → e ∈ L → False := by
      intro L
      induction L with
      | nil => intro _ h _; cases h
      | cons z r ih =>
        intro hp m1 m2
        rw [List.pairwise_cons] at hp
        rcases List.mem_cons.1 m1 with m1 | m1
        · rcases List.mem_cons.1 m2 with m2 | m2
          · exact hne (m1.trans m2.symm)
          · have := (hp.1 e m2).2
            rw [← m1, hg] at this
            cases this
        · rcases List.mem_cons.1 m2 with m2 | m2
          · have := (hp.1 d m1).1
            rw [← m2] at this
            have := fe.lt; have := fd.lt
            omega
          · exact ih hp.2 m1 m2
    exact key hpw hd he
theorem rm_fixed {l : List Ar} (hm : mayS l = true) {lo hi p : Int} (k : FoundOk l lo hi) (hp : RgOk p (p + (hi - lo))) (hov : ¬ (p < hi ∧ lo < p + (hi - lo))) {c : Cl} (h1 : c.a = lo) (h2 : c.n = hi - lo) (h3 : c.w = hi - lo) (h4 : c.to = p) (h5 : c.f = 17) (hle : (putL (cutL l lo hi) (mvA (oldA l lo hi) p (hi - lo))).length ≤ 24) :
    remN l c = okA p ∧ remL l c = putL (cutL l lo hi) (mvA (oldA l lo hi) p (hi - lo)) := by
  obtain ⟨e0, e1, e2, e3⟩ := rm_whole hm k h1 h2 h3 (by rw [h5]; decide +kernel)
  obtain ⟨q1, q2⟩ := rm_go e0
  have b1 : bitB c.f 1 = true := by rw [h5]; decide +kernel
  have b2 : bitB c.f 32 = false := by rw [h5]; decide +kernel
  have g1 := k.rg.lo; have g2 := k.rg.hi; have g3 := k.rg.lt
  obtain ⟨r1, r2, r3⟩ := range_self hp
  have ed : p + (hi - lo) - p = hi - lo := by omega
  rw [ed] at r1 r2 r3
  have eo : rmO l c = oldA l lo hi := by
    show partA (findL l (rmLo c)) (rmLo c) (rmHi c) = _
    rw [e1, e2]
  have fO := fd_fo k
  have hl : longK (oldA l lo hi).b (oldA l lo hi).o (hi - lo) = false := by
    unfold longK
    by_cases hb : (oldA l lo hi).b = 0
    · rw [hb]; rfl
    · have ho := fO.om hb
      obtain ⟨o1, o2⟩ := old_se k
      have ho2 : (oldA l lo hi).o ≤ 1099511627776 - ((oldA l lo hi).e - (oldA l lo hi).s) := ho.2.2
      rw [o1, o2] at ho2
      rw [w64_id (show In64 (1099511627776 - (hi - lo)) by unfold In64; omega), show decide ((oldA l lo hi).o > 1099511627776 - (hi - lo)) = false by rw [decide_eq_false_iff_not]; omega, Bool.and_false]
  have ek : kfE c lo hi (hi - lo) (oldA l lo hi) = 0 := by
    unfold kfE
    rw [h4, h3, r1, r2, r3, if_neg (by simp), if_neg (by rw [Bool.and_eq_true, decide_eq_true_eq, decide_eq_true_eq]; omega), hl]
    rfl
  have hd : decide ((24 : Int) < ((putL (cutL l lo hi) (mvA (oldA l lo hi) p (hi - lo))).length : Int)) = false := by rw [decide_eq_false_iff_not]; omega
  have em : mvL l c.f lo hi (oldA l lo hi) p (hi - lo) = putL (cutL l lo hi) (mvA (oldA l lo hi) p (hi - lo)) := by unfold mvL; rw [b2, if_neg (by simp)]
  rw [q1, q2]
  unfold remM remK
  rw [b1, if_pos rfl, if_pos rfl, eo, e1, e2, e3]
  unfold kfN kfL
  rw [ek, if_neg (by simp), if_neg (by simp), h4, h3, r2, em, (kept_yes (was := l) hd).2, (kept_yes (v := 0) (was := l) hd).1]
  exact ⟨rfl, rfl⟩
theorem there_law {l : List Ar} (hm : mayS l = true) {a : Ar} (ha : a ∈ l) {p : Int} (p0 : p % 4096 = 0) (p1 : 65536 ≤ p) (hf : ∀ d ∈ l, ¬ (p < d.e ∧ d.s < p + (a.e - a.s))) {c d : Cl} (h1 : c.a = a.s ∧ c.n = a.e - a.s ∧ c.w = a.e - a.s ∧ c.to = p ∧ c.f = 17) (h2 : d.a = p ∧ d.n = a.e - a.s ∧ d.w = a.e - a.s ∧ d.to = a.s ∧ d.f = 17) :
    ((remN l c).er ≠ 0 → 2097152 < p + (a.e - a.s)) ∧ ((remN l c).er = 0 → remN l c = okA p ∧ remN (remL l c) d = okA a.s ∧ remL (remL l c) d = l) := by
  obtain ⟨hrt, h24⟩ := mayS_rt hm
  have fa := fo.1 (hrt.1 a ha)
  have g1 := fa.lo; have g2 := fa.hi; have g3 := fa.lt; have g4 := fa.s0; have g5 := fa.e0
  obtain ⟨f1, f2⟩ := found_mem hrt ha (x := a.s) ⟨Int.le_refl _, fa.lt⟩
  have k : FoundOk l a.s a.e := ⟨hrt, ar_rg fa, f1, by rw [f2]; omega⟩
  obtain ⟨c1, c2, c3, c4, c5⟩ := h1
  obtain ⟨d1, d2, d3, d4, d5⟩ := h2
  by_cases hle : p + (a.e - a.s) ≤ 2097152
  · have rp : RgOk p (p + (a.e - a.s)) := ⟨p1, hle, by omega, p0, by omega⟩
    have eo : oldA l a.s a.e = a := old_self k f2 fa
    have wb : w64 (p + (a.e - a.s)) = p + (a.e - a.s) := w64_id (by unfold In64; omega)
    have fb : Fo (mvA a p (a.e - a.s)) := by
      refine fo.1 ((formed_iff _).2 ?_)
      show p % 4096 = 0 ∧ w64 (p + (a.e - a.s)) % 4096 = 0 ∧ 65536 ≤ p ∧ w64 (p + (a.e - a.s)) ≤ 2097152 ∧ p < w64 (p + (a.e - a.s)) ∧ 0 ≤ a.p ∧ a.p ≤ 7 ∧ 0 ≤ a.b ∧ a.b ≤ 9 ∧ _
      rw [wb]
      refine ⟨p0, by omega, p1, hle, by omega, fa.p0, fa.p7, fa.b0, fa.b9, fa.oz, fun hne => ?_⟩
      have ho := fa.om hne
      refine ⟨ho.1, ho.2.1, ?_⟩
      show a.o ≤ 1099511627776 - (w64 (p + (a.e - a.s)) - p)
      rw [wb]
      omega
    have bs : (mvA a p (a.e - a.s)).s = p := rfl
    have be : (mvA a p (a.e - a.s)).e = p + (a.e - a.s) := wb
    have hlen := swap_len hrt ha fb (fun d hd => by rw [bs, be]; exact hf d hd)
    have hov : ¬ (p < a.e ∧ a.s < p + (a.e - a.s)) := hf a ha
    obtain ⟨q1, q2⟩ := rm_fixed hm k rp hov c1 c2 c3 c4 c5 (by rw [eo]; omega)
    rw [eo] at q2
    refine ⟨fun h => absurd (by rw [q1]; rfl) h, fun _ => ⟨q1, ?_⟩⟩
    -- the list behind the first move
    obtain ⟨i1, i2⟩ := fo_in fa
    obtain ⟨k1, k2⟩ := cut_spec hrt i1 i2
    obtain ⟨m1, m2⟩ := put_spec k1 fb
    have hm2 : mayS (remL l c) = true := by rw [q2]; exact rt_mayS m1 (by omega)
    have hrt2 : Rt (remL l c) := (mayS_rt hm2).1
    have has2 : ∀ x t, x % 4096 = 0 → (Has (remL l c) x t ↔ (inA (mvA a p (a.e - a.s)) x ∧ ext (mvA a p (a.e - a.s)) x = t) ∨ ((Has l x t ∧ ¬ inA a x) ∧ ¬ inA (mvA a p (a.e - a.s)) x)) := fun x t hx => by
      rw [q2, m2 x t hx, k2 x t hx, touch_ar fa hx]
    obtain ⟨D, hD, D1, D2, D3⟩ := one_area hrt2 fb fun x hx hin => (has2 x _ hx).2 (.inl ⟨hin, rfl⟩)
    rw [bs] at D1
    rw [be] at D2
    obtain ⟨n1, n2⟩ := found_mem hrt2 hD (x := p) ⟨D1, by omega⟩
    have k' : FoundOk (remL l c) p (p + (a.e - a.s)) := ⟨hrt2, rp, n1, by rw [n2]; exact D2⟩
    have ed : p + (a.e - a.s) - p = a.e - a.s := by omega
    have hback : a.s + (p + (a.e - a.s) - p) = a.e := by omega
    have ea : RgOk a.s (a.s + (p + (a.e - a.s) - p)) := by rw [hback]; exact ar_rg fa
    -- what is put back is the area
    have eb : ∀ x, ext (mvA (oldA (remL l c) p (p + (a.e - a.s))) a.s (p + (a.e - a.s) - p)) x = ext a x := fun x => by
      rw [mv_ext, (old_se k').1, old_ext k', n2, D3, mv_ext]
      congr 1
      omega
    have inb : ∀ x, inA (mvA (oldA (remL l c) p (p + (a.e - a.s))) a.s (p + (a.e - a.s) - p)) x ↔ inA a x := fun x => by
      unfold inA mvA
      show a.s ≤ x ∧ x < w64 (a.s + (p + (a.e - a.s) - p)) ↔ _
      rw [hback, w64_id (show In64 a.e by unfold In64; omega)]
    have fo2 : Fo (mvA (oldA (remL l c) p (p + (a.e - a.s))) a.s (p + (a.e - a.s) - p)) := by
      have hO := fd_fo k'
      have w2 : w64 (a.s + (p + (a.e - a.s) - p)) = a.e := by rw [hback]; exact w64_id (by unfold In64; omega)
      refine fo.1 ((formed_iff _).2 ?_)
      show a.s % 4096 = 0 ∧ w64 (a.s + (p + (a.e - a.s) - p)) % 4096 = 0 ∧ 65536 ≤ a.s ∧ w64 (a.s + (p + (a.e - a.s) - p)) ≤ 2097152 ∧ a.s < w64 (a.s + (p + (a.e - a.s) - p)) ∧ 0 ≤ (oldA (remL l c) p (p + (a.e - a.s))).p ∧ (oldA (remL l c) p (p + (a.e - a.s))).p ≤ 7 ∧ 0 ≤ (oldA (remL l c) p (p + (a.e - a.s))).b ∧ (oldA (remL l c) p (p + (a.e - a.s))).b ≤ 9 ∧ _
      rw [w2]
      refine ⟨g4, g5, g1, g2, g3, hO.p0, hO.p7, hO.b0, hO.b9, hO.oz, fun hne => ?_⟩
      have hne : (oldA (remL l c) p (p + (a.e - a.s))).b ≠ 0 := hne
      have ho := hO.om hne
      obtain ⟨o1, o2⟩ := old_se k'
      refine ⟨ho.1, ho.2.1, ?_⟩
      show (oldA (remL l c) p (p + (a.e - a.s))).o ≤ 1099511627776 - (w64 (a.s + (p + (a.e - a.s) - p)) - a.s)
      rw [w2]
      have ho2 : (oldA (remL l c) p (p + (a.e - a.s))).o ≤ 1099511627776 - ((oldA (remL l c) p (p + (a.e - a.s))).e - (oldA (remL l c) p (p + (a.e - a.s))).s) := ho.2.2
      rw [o1, o2] at ho2
      omega
    obtain ⟨u1, u2⟩ := cut_spec hrt2 (lo := p) (hi := p + (a.e - a.s)) (by unfold In64; omega) (by unfold In64; omega)
    obtain ⟨v1, v2⟩ := put_spec u1 fo2
    have eL : putL (cutL (remL l c) p (p + (a.e - a.s))) (mvA (oldA (remL l c) p (p + (a.e - a.s))) a.s (p + (a.e - a.s) - p)) = l := by
      refine rt_ext v1 hrt fun x t hx => ?_
      rw [v2 x t hx, u2 x t hx, has2 x t hx, inb, eb]
      have tp : Touch x p (p + (a.e - a.s)) ↔ inA (mvA a p (a.e - a.s)) x := by
        rw [← touch_ar fb hx, bs, be]
      rw [tp]
      have own : ∀ t', inA a x → (Has l x t' ↔ ext a x = t') := fun t' hin => ⟨fun h => (has_fun hrt.ok ⟨a, ha, hin, rfl⟩ h), fun h => ⟨a, ha, hin, h⟩⟩
      have dis : ∀ t', Has l x t' → ¬ inA (mvA a p (a.e - a.s)) x := fun t' ⟨z, hz, y1, _⟩ y2 => by
        have y3 : p ≤ x := y2.1
        have y4 : x < p + (a.e - a.s) := by have := y2.2; rw [be] at this; exact this
        exact hf z hz ⟨by have := y1.2; omega, by have := y1.1; omega⟩
      constructor
      · rintro (⟨y1, y2⟩ | ⟨⟨y1, y2⟩, y3⟩)
        · exact (own t y1).2 y2
        · rcases y1 with y1 | y1
          · exact absurd y1.1 y2
          · exact y1.1.1
      · intro y
        by_cases hin : inA a x
        · exact .inl ⟨hin, (own t hin).1 y⟩
        · exact .inr ⟨⟨.inr ⟨⟨y, hin⟩, dis t y⟩, dis t y⟩, hin⟩
    obtain ⟨z1, z2⟩ := rm_fixed (c := d) hm2 k' ea (by omega) d1 (by rw [d2]; omega) (by rw [d3]; omega) d4 d5 (by rw [eL]; exact h24)
    rw [eL] at z2
    exact ⟨z1, z2⟩
  · refine ⟨fun _ => by omega, fun h => ?_⟩
    exfalso
    obtain ⟨e0, e1, e2, e3⟩ := rm_whole hm k c1 c2 c3 (by rw [c5]; decide +kernel)
    obtain ⟨q1, q2⟩ := rm_go e0
    have b1 : bitB c.f 1 = true := by rw [c5]; decide +kernel
    have hr : rangeE c.to c.w ≠ 0 := fun hr => by
      obtain ⟨r1, r2, r3, r4⟩ := range_ok hr
      have := r1.hi
      rw [r3, e3, c4] at this
      omega
    have hk : kfE c (rmLo c) (rmHi c) (sizeV c.w) (rmO l c) = rangeE c.to c.w := by
      unfold kfE
      rw [if_pos (by simpa using hr)]
    rw [q1] at h
    unfold remM at h
    rw [b1, if_pos rfl] at h
    unfold kfN at h
    rw [hk, if_pos (by simpa using hr)] at h
    exact hr h
end Go.Proofs.Ytbcicjmepojlnaa.Eng
/- Remap: what its laws ask; no condition but those typed. -/
namespace Go.Proofs.Ytbcicjmepojlnaa.Eng
open Go Go.RowKit
set_option autoImplicit false
set_option linter.unusedSimpArgs false
set_option linter.unusedVariables false
theorem ka_bd (l : List Ar) (f lo hi n : Int) (o : Ar) : (kaL l f lo hi n o).length ≤ l.length + 24 := by
  unfold kaL
  split
  · omega
  · exact kept_len _ _
theorem rem_bd (l : List Ar) (c : Cl) : (remL l c).length ≤ l.length + 24 := by
  unfold remL
  split
  · omega
  · unfold remK
    split
    · unfold kfL
      split
      · omega
      · exact kept_len _ _
    · split
      · exact ka_bd _ _ _ _ _ _
      · split
        · exact kept_len _ _
        · unfold kgL
          split
          · omega
          · split
            · exact kept_len _ _
            · split
              · exact ka_bd _ _ _ _ _ _
              · omega
theorem ka_self {l : List Ar} {f lo hi n : Int} {o : Ar} (h : ((kaN l f lo hi n o).er != 0) = true) : kaL l f lo hi n o = l := by
  unfold kaN at h
  unfold kaL
  by_cases hp : (placeE l 0 n 0 != 0) = true
  · rw [if_pos hp]
  · rw [if_neg hp] at h ⊢
    exact keptN_er h
theorem rem_self {l : List Ar} {c : Cl} (h : ((remN l c).er != 0) = true) : remL l c = l := by
  unfold remN at h
  unfold remL
  by_cases h0 : (rmE l c != 0) = true
  · rw [if_pos h0]
  · rw [if_neg h0] at h ⊢
    unfold remM at h
    unfold remK
    by_cases b1 : bitB c.f 1 = true
    · rw [if_pos b1] at h ⊢
      unfold kfN at h
      unfold kfL
      by_cases hk : (kfE c (rmLo c) (rmHi c) (sizeV c.w) (rmO l c) != 0) = true
      · rw [if_pos hk]
      · rw [if_neg hk] at h ⊢
        exact keptN_er h
    · rw [if_neg b1] at h ⊢
      by_cases b2 : bitB c.f 32 = true
      · rw [if_pos b2] at h ⊢
        exact ka_self h
      · rw [if_neg b2] at h ⊢
        by_cases b3 : decide (sizeV c.w ≤ w64 (rmHi c - rmLo c)) = true
        · rw [if_pos b3] at h ⊢
          exact keptN_er h
        · rw [if_neg b3] at h ⊢
          unfold kgN at h
          unfold kgL
          by_cases hl : longK (rmO l c).b (rmO l c).o (sizeV c.w) = true
          · rw [if_pos hl]
          · rw [if_neg hl] at h ⊢
            by_cases hg : growB l (rmLo c) (rmHi c) (sizeV c.w) (rmW l c).e = true
            · rw [if_pos hg] at h ⊢
              exact keptN_er h
            · rw [if_neg hg] at h ⊢
              by_cases b4 : bitB c.f 16 = true
              · rw [if_pos b4] at h ⊢
                exact ka_self h
              · rw [if_neg b4]
theorem rem_no {l : List Ar} (h : mayS l = false) (c : Cl) : remN l c = errA 1 ∧ remL l c = l := by
  have he : rmE l c = 1 := by unfold rmE; rw [h]; rfl
  unfold remN remL
  rw [he]
  exact ⟨rfl, rfl⟩
theorem rem_l1 (l : List Ar) (c : Cl) : (remL (someL l) c).length ≤ 300000 := by have := rem_bd (someL l) c; have := someL_le l; omega
theorem rem_l2 (l : List Ar) (c : Cl) : (remL (someL l) c).length ≤ 1000000 := by have := rem_bd (someL l) c; have := someL_le l; omega
theorem rem_l3 (l : List Ar) (c d : Cl) : (remL (remL (someL l) c) d).length ≤ 1000000 := by have := rem_bd (remL (someL l) c) d; have := rem_bd (someL l) c; have := someL_le l; omega
theorem rem_l4 {l : List Ar} (c : Cl) (h : decide ((40 : Int) < (l.length : Int)) = false) : (remL l c).length ≤ 1000000 := by have := rem_bd l c; have := of_decide_eq_false h; omega
end Go.Proofs.Ytbcicjmepojlnaa.Eng
/- Contracts of functions (printed by genx.py of this work): what each hands back; condition: as its 'hside' says. -/
namespace Go.Proofs.Ytbcicjmepojlnaa.Eng
open Go Go.RowKit
set_option linter.unusedVariables false
set_option linter.unusedSimpArgs false
theorem b_rone : Bodied Try.prog 139 := bodied Try.func139 rfl (by decide)
def F_rone : FunX := fun κ avs => match avs with
  | [.lst l xl, .val (.c (.v (.int .i64 lo))), .val (.c (.v (.int .i64 hi)))] => some (κ _ (Rt l ∧ l.length ≤ 300000), (.val (.tup [.c (.v (.int .i64 (κ _ (oneE l lo)))), .c (.v (.bool (κ _ (oneB l lo hi))))])))
  | _ => none
set_option maxRecDepth 100000 in
set_option maxHeartbeats 4000000 in
theorem k_rone (l : List Ar) (lo : Int) (hi : Int) (Al : Option Addr) (cl : Nat) (hside : Rt l ∧ l.length ≤ 300000) (w : World) (hl : (Ent.rd Al 6 l.length (encL l)).holds w) :
    Calls Try.prog 139 #[.slice Al l.length cl, (SV.c (.v (.int .i64 lo))).den, (SV.c (.v (.int .i64 hi))).den] w fun e w' => ∃ v H', e = .returned v.den ∧ IsX (.val (.tup [.c (.v (.int .i64 (oneE l lo))), .c (.v (.bool (oneB l lo hi)))])) v H' ∧ HSat w (fun _ => False) H' w' := by
  obtain ⟨κ, hκ⟩ : ∃ κ : Kp, κ = kid := ⟨_, rfl⟩
  have hH : HSat w (fun _ => False) (heapOf [(nilId, .rd none 1 0 []), (200000, .rd Al 6 (κ _ l.length) (κ _ (encL l)))]) w := by
    subst hκ
    refine HSat.reads fun p hp => ?_
    simp only [List.mem_cons, List.not_mem_nil, or_false] at hp
    rcases hp with rfl | rfl
    · exact ⟨_, _, _, _, rfl, nil_holds w⟩
    · exact ⟨_, _, _, _, rfl, hl⟩
  refine (callsP (n := 43) FTok [] mixed [(5, [[], [0], [], [], [], [0, 1, 2, 3, 4], [0, 1, 2, 3, 4, 5], [0, 1, 2, 3, 4], [0, 1, 2, 3, 4], [0, 1, 2, 3, 4], [0, 1, 2, 3, 4, 5, 6, 7, 8, 9], [0, 1, 2, 3, 4], [5, 6, 7, 8, 9, 10, 11], []])] Try.func139 rfl (by kernel_rfl) #[.slice Al l.length cl, (SV.c (.v (.int .i64 lo))).den, (SV.c (.v (.int .i64 hi))).den] [(0, .c (.sl 200000 Al (κ _ l.length) cl)), (1, .c (.v (.int .i64 lo))), (2, .c (.v (.int .i64 hi)))] _ w rfl [.tmp 6, .tmp 7] rfl (by simp) (by subst hκ; simp [SV.den, C.den, kid]) hH (fun v H' => IsX (.val (.tup [.c (.v (.int .i64 (κ _ (oneE l lo)))), .c (.v (.bool (κ _ (oneB l lo hi))))])) v H') hκ ?_).mono ?_
  rotate_left
  · subst hκ; intro e w' h; exact h
  intro P' hP'
  cbv
  repeat' (first | refine And.intro ?_ ?_ | (intro _; cbv) | (refine tst_mk (fun h => ?_) (fun h => ?_) <;> cbv) | (refine LookX.nil ?_; cbv) | (refine LookX.auto hκ ?_; cbv))
  refine loopP hP' FTok [] mixed [0, 1, 2, 6, 7] (σ := {i : Nat // ∀ j : Nat, j < i → hasA (nthA l j) lo = false}) (fun q => [(8, .c (.v (.int .i64 (κ _ ((q.1 : Nat) : Int)))))]) (fun _ => [(200000, .rd Al 6 (κ _ l.length) (κ _ (encL l)))]) (fun q => l.length - q.1) ⟨0, fun j hj => absurd hj (Nat.not_lt_zero j)⟩ [200000] ?_ (by decide) ?_ hκ ?_
  · cbv
    all_goals (subst hκ; delta kid; repeat' (first | exact rfl | exact trivial | refine And.intro ?_ ?_))
  · cbv
    all_goals (subst hκ; delta kid; repeat' (first | exact rfl | exact trivial | refine And.intro ?_ ?_))
  rintro ⟨i, hf⟩
  cbv
  refine tst_mk (fun h => ?_) (fun h => ?_)
  · have hx : i < l.length := by subst hκ; delta kid at h; have h2 : (i : Int) < (l.length : Int) := of_decide_eq_true h; omega
    cbv
    repeat' (first | refine And.intro ?_ ?_ | (intro _; cbv) | (refine tst_mk (fun h => ?_) (fun h => ?_) <;> cbv) | (refine LookX.nil ?_; cbv) | (refine LookX.auto hκ ?_; cbv) | (refine LookR.mk' (x := .v (.int .i64 (κ _ (nthA l i).s))) (by subst hκ; delta kid at *; exact la_s hx) ?_; cbv) | (refine LookR.mk' (x := .v (.int .i64 (κ _ (nthA l i).e))) (by subst hκ; delta kid at *; exact la_e hx) ?_; cbv))
    all_goals (try (show Side _; refine ⟨?_⟩; subst hκ; delta kid at *; first | exact rfl | exact trivial | exact ⟨rfl, rfl, .inl rfl⟩ | ((try dsimp only at *); (try simp only [setTo_len, noS_len, List.length_append, List.length_cons, List.length_nil, List.length_map, and_self, true_or, or_true, eq_self, true_and, and_true, Nat.zero_add, Nat.add_zero]); (first | done | omega); done)))
    all_goals (clear hH; subst hκ; delta kid at *; (try dsimp only at *))
    all_goals (try (exact ⟨la_ix hx⟩))
    · exact IsX.ib (one_y hside.1 hx hf (by with_reducible assumption) (by with_reducible assumption))
    · refine ⟨⟨⟨i + 1, has_next hf (one_n2 hside.1 hx (by with_reducible assumption))⟩, [200000], (by show l.length - (i + 1) < l.length - i; omega), by decide, ?_, ?_⟩⟩
      all_goals repeat' (first | exact rfl | exact trivial | refine And.intro ?_ ?_ | exact congrArg (Value.int .i64) (nat_succ (by omega)))
    · refine ⟨⟨⟨i + 1, has_next hf (one_n1 hside.1 hx (by with_reducible assumption))⟩, [200000], (by show l.length - (i + 1) < l.length - i; omega), by decide, ?_, ?_⟩⟩
      all_goals repeat' (first | exact rfl | exact trivial | refine And.intro ?_ ?_ | exact congrArg (Value.int .i64) (nat_succ (by omega)))
  · have hx : ¬ i < l.length := by subst hκ; delta kid at h; have h2 : ¬ (i : Int) < (l.length : Int) := of_decide_eq_false h; omega
    cbv
    (clear hH; subst hκ; delta kid at *; (try dsimp only at *))
    exact IsX.ib (one_end hx hf)
def e_rone {κ : Kp} (hκ : κ = kid) : ESpec Try.prog := fnES [.list, .flat, .flat] b_rone F_rone hκ fun avs p r hF hp => by
  unfold F_rone at hF
  split at hF
  case h_2 => cases hF
  rename_i l xl lo hi
  simp only [kid, Option.some.injEq, Prod.mk.injEq] at hF
  obtain ⟨rfl, rfl⟩ := hF
  refine ⟨trivial, fun vs w hR => ?_⟩
  obtain ⟨il, Al, cl, vs0, rfl, rfl, hl, hR⟩ := hR
  obtain ⟨vs1, rfl, hR⟩ := hR
  obtain ⟨vs2, rfl, hR⟩ := hR
  have hR' : vs2 = [] := hR
  subst hR'
  exact k_rone l lo hi Al cl hp w hl
theorem b_rmoved : Bodied Try.prog 140 := bodied Try.func140 rfl (by decide)
def F_rmoved : FunX := fun κ avs => match avs with
  | [.lst l xl, .val (.c (.v (.int .i64 lo))), .val (.c (.v (.int .i64 hi))), .val (.c (.v (.int .i64 pp))), .val (.c (.v (.int .i64 n))), .val (.c (.v (.bool st)))] => some (κ _ (MvOk l lo hi pp n ∧ l.length ≤ 300000), (.alt ((κ _ (decide ((24 : Int) < ((mvS l st lo hi (oldA l lo hi) pp n).length : Int))))) (xl) (fun x => .tup [.c x, .agg [.v (.int .i64 9), .v (.int .i64 0), .v (.int .i64 0), .v (.bool false), .v (.int .i64 0), .v (.int .i64 0)]]) ((κ _ (mvS l st lo hi (oldA l lo hi) pp n))) (fun x => .tup [.c x, .agg [.v (.int .i64 0), .v (.int .i64 (κ _ (pp))), .v (.int .i64 0), .v (.bool false), .v (.int .i64 0), .v (.int .i64 0)]])))
  | _ => none
set_option maxRecDepth 100000 in
set_option maxHeartbeats 4000000 in
theorem k_rmoved (l : List Ar) (lo : Int) (hi : Int) (pp : Int) (n : Int) (st : Bool) (Al : Option Addr) (cl : Nat) (hside : MvOk l lo hi pp n ∧ l.length ≤ 300000) (w : World) (hl : (Ent.rd Al 6 l.length (encL l)).holds w) :
    Calls Try.prog 140 #[.slice Al l.length cl, (SV.c (.v (.int .i64 lo))).den, (SV.c (.v (.int .i64 hi))).den, (SV.c (.v (.int .i64 pp))).den, (SV.c (.v (.int .i64 n))).den, (SV.c (.v (.bool st))).den] w fun e w' => ∃ v H', e = .returned v.den ∧ IsX (.alt ((decide ((24 : Int) < ((mvS l st lo hi (oldA l lo hi) pp n).length : Int)))) (.sl 200000 Al l.length cl) (fun x => .tup [.c x, .agg [.v (.int .i64 9), .v (.int .i64 0), .v (.int .i64 0), .v (.bool false), .v (.int .i64 0), .v (.int .i64 0)]]) ((mvS l st lo hi (oldA l lo hi) pp n)) (fun x => .tup [.c x, .agg [.v (.int .i64 0), .v (.int .i64 (pp)), .v (.int .i64 0), .v (.bool false), .v (.int .i64 0), .v (.int .i64 0)]])) v H' ∧ HSat w (fun _ => False) H' w' := by
  obtain ⟨κ, hκ⟩ : ∃ κ : Kp, κ = kid := ⟨_, rfl⟩
  have hH : HSat w (fun _ => False) (heapOf [(nilId, .rd none 1 0 []), (200000, .rd Al 6 (κ _ l.length) (κ _ (encL l)))]) w := by
    subst hκ
    refine HSat.reads fun p hp => ?_
    simp only [List.mem_cons, List.not_mem_nil, or_false] at hp
    rcases hp with rfl | rfl
    · exact ⟨_, _, _, _, rfl, nil_holds w⟩
    · exact ⟨_, _, _, _, rfl, hl⟩
  refine (callsP (n := 41) FTok [e_of hκ, e_rwithout hκ, e_rwith hκ, e_rkept hκ] mixed [] Try.func140 rfl (by kernel_rfl) #[.slice Al l.length cl, (SV.c (.v (.int .i64 lo))).den, (SV.c (.v (.int .i64 hi))).den, (SV.c (.v (.int .i64 pp))).den, (SV.c (.v (.int .i64 n))).den, (SV.c (.v (.bool st))).den] [(0, .c (.sl 200000 Al (κ _ l.length) cl)), (1, .c (.v (.int .i64 lo))), (2, .c (.v (.int .i64 hi))), (3, .c (.v (.int .i64 pp))), (4, .c (.v (.int .i64 n))), (5, .c (.v (.bool st)))] _ w rfl [.tmp 12, .cell 13 31] rfl (by simp) (by subst hκ; simp [SV.den, C.den, kid]) hH (fun v H' => IsX (.alt ((κ _ (decide ((24 : Int) < ((mvS l st lo hi (oldA l lo hi) pp n).length : Int))))) (.sl 200000 Al (κ _ l.length) cl) (fun x => .tup [.c x, .agg [.v (.int .i64 9), .v (.int .i64 0), .v (.int .i64 0), .v (.bool false), .v (.int .i64 0), .v (.int .i64 0)]]) ((κ _ (mvS l st lo hi (oldA l lo hi) pp n))) (fun x => .tup [.c x, .agg [.v (.int .i64 0), .v (.int .i64 (κ _ (pp))), .v (.int .i64 0), .v (.bool false), .v (.int .i64 0), .v (.int .i64 0)]])) v H') hκ ?_).mono ?_
  rotate_left
  · subst hκ; intro e w' h; exact h
  intro P' hP'
  cbv
  have hok := hside.1.fd.rt.ok
  repeat' (first | refine And.intro ?_ ?_ | (intro _; cbv) | (refine tst_mk (fun h => ?_) (fun h => ?_) <;> cbv) | (refine LookX.nil ?_; cbv) | (refine LookX.auto hκ ?_; cbv) | (refine LookN.mk' (x := [.v (.int .i64 (κ _ (pgT l lo).p)), .v (.bool (κ _ (pgT l lo).sh)), .v (.int .i64 (κ _ (pgT l lo).b)), .v (.int .i64 (κ _ (pgT l lo).o))]) (by subst hκ; delta kid at *; exact adr_attrZ (ofL_len l) (mv_adr hside.1).1 (mv_adr hside.1).2) ?_; cbv) | (refine LookN.mk' (x := κ _ (encS (ofL l))) (by subst hκ; delta kid at *; exact (by rw [zero_put (ofL_len _)]; exact whole_take (ofL_len _))) ?_; cbv) | (refine LookN.mk' (x := κ _ (encS (woP (lo / 4096).toNat (ofL l) ((hi / 4096).toNat - (lo / 4096).toNat)))) (by subst hκ; delta kid at *; exact (by rw [zero_put (ofL_len _)]; exact whole_put ((woP_len _ _ _).trans (ofL_len l)) (ofL_len l))) ?_; cbv))
  all_goals (try (show Side _; refine ⟨?_⟩; subst hκ; delta kid at *; first | exact rfl | exact trivial | exact ⟨rfl, rfl, .inl rfl⟩ | exact ⟨hok.1, by omega⟩ | exact mv_side1 hside.1 | exact mv_side2 hside.1 | exact ofL_len l | ((try dsimp only at *); (try simp only [setTo_len, noS_len, List.length_append, List.length_cons, List.length_nil, List.length_map, and_self, true_or, or_true, eq_self, true_and, and_true, Nat.zero_add, Nat.add_zero]); (first | done | omega); done)))
  all_goals (try (show _ = true; subst hκ; delta kid; (have ho := encS_ok (ofL l); generalize encS (ofL l) = xs at ho ⊢; cases xs <;> exact ho)))
  all_goals (try (show 2560 = _; subst hκ; delta kid; (have ho := encS_len2 (s := ofL l) (ofL_len l); generalize encS (ofL l) = xs at ho ⊢; cases xs <;> exact ho.symm)))
  all_goals (try (show _ = true; subst hκ; delta kid; (have ho := encS_ok (woP (lo / 4096).toNat (ofL l) ((hi / 4096).toNat - (lo / 4096).toNat)); generalize encS (woP (lo / 4096).toNat (ofL l) ((hi / 4096).toNat - (lo / 4096).toNat)) = xs at ho ⊢; cases xs <;> exact ho)))
  all_goals (try (show 2560 = _; subst hκ; delta kid; (have ho := encS_len2 (s := woP (lo / 4096).toNat (ofL l) ((hi / 4096).toNat - (lo / 4096).toNat)) (((woP_len _ _ _).trans (ofL_len l))); generalize encS (woP (lo / 4096).toNat (ofL l) ((hi / 4096).toNat - (lo / 4096).toNat)) = xs at ho ⊢; cases xs <;> exact ho.symm)))
  all_goals (try (show Side _; subst hκ; delta kid; refine ⟨?_⟩; rw [encS_noS, encS_len, encS_len, ((woP_len _ _ _).trans (ofL_len l)), noS_len]; omega))
  all_goals (clear hH; subst hκ; delta kid at *; (try dsimp only at *))
  all_goals (try (show Side _; refine ⟨?_⟩; first | exact put_fits (ofL_len l) ((woP_len _ _ _).trans (ofL_len l)) | exact (withP_len _ _ _ _).trans (ofL_len l) | exact (withP_len _ _ _ _).trans ((woP_len _ _ _).trans (ofL_len l)) | exact (woP_len _ _ _).trans (ofL_len l) | exact adr_in (mv_adr hside.1).1 (mv_adr hside.1).2 | exact zero_fits (ofL_len l)))
  all_goals (first | (have hst : st = true := (by with_reducible assumption); subst hst) | (have hst : st = false := (by with_reducible assumption); subst hst))
  all_goals (show IsX _ _ _; first | exact IsX.sameM rfl (fun x => rfl) (by rw [← mv_stay hside.1]; assumption) | exact IsX.newM rfl rfl (fun x => rfl) (by rw [← mv_stay hside.1]; assumption) (mv_stay hside.1) | exact IsX.sameM rfl (fun x => rfl) (by rw [← mv_go hside.1]; assumption) | exact IsX.newM rfl rfl (fun x => rfl) (by rw [← mv_go hside.1]; assumption) (mv_go hside.1))
def e_rmoved {κ : Kp} (hκ : κ = kid) : ESpec Try.prog := fnES [.list, .flat, .flat, .flat, .flat, .flat] b_rmoved F_rmoved hκ fun avs p r hF hp => by
  unfold F_rmoved at hF
  split at hF
  case h_2 => cases hF
  rename_i l xl lo hi pp n st
  simp only [kid, Option.some.injEq, Prod.mk.injEq] at hF
  obtain ⟨rfl, rfl⟩ := hF
  refine ⟨fun x y h => by simp [SV.den, SV.den0, h], fun vs w hR => ?_⟩
  obtain ⟨il, Al, cl, vs0, rfl, rfl, hl, hR⟩ := hR
  obtain ⟨vs1, rfl, hR⟩ := hR
  obtain ⟨vs2, rfl, hR⟩ := hR
  obtain ⟨vs3, rfl, hR⟩ := hR
  obtain ⟨vs4, rfl, hR⟩ := hR
  obtain ⟨vs5, rfl, hR⟩ := hR
  have hR' : vs5 = [] := hR
  subst hR'
  exact (k_rmoved l lo hi pp n st Al cl hp w hl).mono fun e w' ⟨v, H', h1, h2, h3⟩ => ⟨v, H', h1, h2.swap rfl, h3⟩
end Go.Proofs.Ytbcicjmepojlnaa.Eng
/- Remap: the reference's leaves; no condition but those typed. -/
namespace Go.Proofs.Ytbcicjmepojlnaa.Eng
open Go Go.RowKit
set_option autoImplicit false
set_option linter.unusedSimpArgs false
set_option linter.unusedVariables false
set_option linter.unusedSectionVars false
abbrev fxB (f : Int) : Bool := (Int.tmod f 2 == 1)
abbrev myB (f : Int) : Bool := (Int.tmod (IntKind.i64.wrap (Int.tdiv f 16)) 2 == 1)
abbrev stB (f : Int) : Bool := (Int.tmod (IntKind.i64.wrap (Int.tdiv f 32)) 2 == 1)
theorem rg_adr {a n : Int} (h : (rangeE a n != 0) = false) : decide (rangeLo a n < 65536) = false ∧ decide (2097152 ≤ rangeLo a n) = false := by
  have k := (range_ok (bne_no h)).1
  have h1 := k.lo; have h2 := k.hi; have h3 := k.lt
  exact ⟨by rw [decide_eq_false_iff_not]; omega, by rw [decide_eq_false_iff_not]; omega⟩
theorem eq_bne {x : Int} (h : (x == 0) = true) : (x != 0) = false := by unfold bne; rw [h]; rfl
section
variable {l : List Ar} {c : Cl} (hm : mayS l = true) (f1 : decide (c.f < 0) = false) (f2 : decide (63 < c.f) = false)
include hm f1 f2
theorem rmE_st (h : rmFl c.f = 0) (h2 : (rangeE c.a c.n != 0) = false) (h3 : (sizeE c.w != 0) = false) (h4 : stB c.f = true) (h5 : (sizeV c.w != IntKind.i64.wrap (rangeHi c.a c.n - rangeLo c.a c.n)) = true) : rmE l c = 1 :=
  rmE_dont hm h h2 h3 (by rw [← (rfl_is f1 f2).2.2.1]; exact h4) h5
theorem rmE0_st (h : rmFl c.f = 0) (h2 : (rangeE c.a c.n != 0) = false) (h3 : (sizeE c.w != 0) = false) (h4 : stB c.f = false ∨ (sizeV c.w != IntKind.i64.wrap (rangeHi c.a c.n - rangeLo c.a c.n)) = false) : rmE0 c = 0 :=
  rmE0_ok hm h h2 h3 (h4.imp (fun h => by rw [← (rfl_is f1 f2).2.2.1]; exact h) id)
variable (h0 : rmE l c = 0)
include h0
theorem rb_fix (hf : fxB c.f = true) : remN l c = kfN l c (rmLo c) (rmHi c) (sizeV c.w) (rmO l c) ∧ remL l c = kfL l c (rmLo c) (rmHi c) (sizeV c.w) (rmO l c) := by
  obtain ⟨q1, q2⟩ := rm_go h0
  have b : bitB c.f 1 = true := by rw [← (rfl_is f1 f2).1]; exact hf
  rw [q1, q2]
  unfold remM remK
  rw [if_pos b, if_pos b]
  exact ⟨rfl, rfl⟩
theorem rb_away (hf : fxB c.f = false) (hs : stB c.f = true) : remN l c = kaN l c.f (rmLo c) (rmHi c) (sizeV c.w) (rmO l c) ∧ remL l c = kaL l c.f (rmLo c) (rmHi c) (sizeV c.w) (rmO l c) := by
  obtain ⟨q1, q2⟩ := rm_go h0
  have b : bitB c.f 1 = false := by rw [← (rfl_is f1 f2).1]; exact hf
  have b2 : bitB c.f 32 = true := by rw [← (rfl_is f1 f2).2.2.1]; exact hs
  rw [q1, q2]
  unfold remM remK
  rw [b]
  simp only [Bool.false_eq_true, if_false]
  rw [if_pos b2, if_pos b2]
  exact ⟨rfl, rfl⟩
theorem rb_shrink (hf : fxB c.f = false) (hs : stB c.f = false) (hle : decide (sizeV c.w ≤ IntKind.i64.wrap (rmHi c - rmLo c)) = true) : remN l c = keptN (cutL l (IntKind.i64.wrap (rmLo c + sizeV c.w)) (rmHi c)) (rmLo c) ∧ remL l c = keptL l (cutL l (IntKind.i64.wrap (rmLo c + sizeV c.w)) (rmHi c)) := by
  obtain ⟨q1, q2⟩ := rm_go h0
  have b : bitB c.f 1 = false := by rw [← (rfl_is f1 f2).1]; exact hf
  have b2 : bitB c.f 32 = false := by rw [← (rfl_is f1 f2).2.2.1]; exact hs
  rw [q1, q2]
  unfold remM remK
  rw [b, b2]
  simp only [Bool.false_eq_true, if_false]
  rw [if_pos hle, if_pos hle]
  exact ⟨rfl, rfl⟩
theorem rb_grow (hf : fxB c.f = false) (hs : stB c.f = false) (hle : decide (sizeV c.w ≤ IntKind.i64.wrap (rmHi c - rmLo c)) = false) : remN l c = kgN l c.f (rmLo c) (rmHi c) (sizeV c.w) (rmW l c).e (rmO l c) ∧ remL l c = kgL l c.f (rmLo c) (rmHi c) (sizeV c.w) (rmW l c).e (rmO l c) := by
  obtain ⟨q1, q2⟩ := rm_go h0
  have b : bitB c.f 1 = false := by rw [← (rfl_is f1 f2).1]; exact hf
  have b2 : bitB c.f 32 = false := by rw [← (rfl_is f1 f2).2.2.1]; exact hs
  rw [q1, q2]
  unfold remM remK
  rw [b, b2]
  simp only [Bool.false_eq_true, if_false]
  rw [if_neg (by rw [hle]; simp), if_neg (by rw [hle]; simp)]
  exact ⟨rfl, rfl⟩
end
abbrev lgB (l : List Ar) (c : Cl) : Bool := ((pgT l (rmLo c)).b != 0 && decide (1099511627776 < IntKind.i64.wrap ((pgT l (rmLo c)).o + sizeV c.w)))
theorem lg_y {l : List Ar} {c : Cl} (h1 : ((pgT l (rmLo c)).b != 0) = true) (h2 : decide (1099511627776 < IntKind.i64.wrap ((pgT l (rmLo c)).o + sizeV c.w)) = true) : lgB l c = true := by unfold lgB; rw [h1, h2]; rfl
theorem lg_n {l : List Ar} {c : Cl} (h : ((pgT l (rmLo c)).b != 0) = false ∨ decide (1099511627776 < IntKind.i64.wrap ((pgT l (rmLo c)).o + sizeV c.w)) = false) : lgB l c = false := by
  unfold lgB
  rcases h with h | h <;> rw [h] <;> simp
structure ErrOk (l : List Ar) (c : Cl) (e : Int) : Prop where
  n : remN l c = errA e
  er : ((remN l c).er != 0) = true
theorem err_of {l : List Ar} {c : Cl} {e : Int} (h : remN l c = errA e) (he : (e != 0) = true) : ErrOk l c e := ⟨h, by rw [h]; exact he⟩
section
variable {l : List Ar} {c : Cl} (f1 : decide (c.f < 0) = false) (f2 : decide (63 < c.f) = false) (h0 : rmE l c = 0)
include f1 f2 h0
theorem fe_1 (hf : fxB c.f = true) (h : (rangeE c.to c.w != 0) = true) : ErrOk l c (rangeE c.to c.w) := by
  have k : kfE c (rmLo c) (rmHi c) (sizeV c.w) (rmO l c) = rangeE c.to c.w := by unfold kfE; rw [if_pos h]
  refine err_of ?_ h
  rw [(rb_fix (rm_ok0 h0).1 f1 f2 h0 hf).1]
  unfold kfN
  rw [k, if_pos h]
theorem fe_2 (hf : fxB c.f = true) (h : (rangeE c.to c.w != 0) = false) (h1 : decide (rangeLo c.to c.w < rmHi c) = true) (h2 : decide (rmLo c < rangeHi c.to c.w) = true) : ErrOk l c 1 := by
  have k : kfE c (rmLo c) (rmHi c) (sizeV c.w) (rmO l c) = 1 := by unfold kfE; rw [if_neg (by rw [h]; simp), if_pos]; rw [h1]; exact h2
  refine err_of ?_ (by decide)
  rw [(rb_fix (rm_ok0 h0).1 f1 f2 h0 hf).1]
  unfold kfN
  rw [k]
  rfl
theorem fk_ov (h : (rangeE c.to c.w != 0) = false) (h1 : decide (rangeLo c.to c.w < rmHi c) = false ∨ decide (rmLo c < rangeHi c.to c.w) = false) : kfE c (rmLo c) (rmHi c) (sizeV c.w) (rmO l c) = if lgB l c = true then 4 else 0 := by
  unfold kfE
  rw [if_neg (by rw [h]; simp), if_neg, rm_long h0]
  show ¬ (decide (rangeLo c.to c.w < rmHi c) && decide (rmLo c < rangeHi c.to c.w)) = true
  rcases h1 with h1 | h1 <;> rw [h1] <;> simp
theorem fe_4 (hf : fxB c.f = true) (h : (rangeE c.to c.w != 0) = false) (h1 : decide (rangeLo c.to c.w < rmHi c) = false ∨ decide (rmLo c < rangeHi c.to c.w) = false) (hl : lgB l c = true) : ErrOk l c 4 := by
  have k := fk_ov f1 f2 h0 h h1
  rw [if_pos hl] at k
  refine err_of ?_ (by decide)
  rw [(rb_fix (rm_ok0 h0).1 f1 f2 h0 hf).1]
  unfold kfN
  rw [k]
  rfl
theorem fx_go (hf : fxB c.f = true) (h : (rangeE c.to c.w != 0) = false) (h1 : decide (rangeLo c.to c.w < rmHi c) = false ∨ decide (rmLo c < rangeHi c.to c.w) = false) (hl : lgB l c = false) :
    MvOk l (rmLo c) (rmHi c) (rangeLo c.to c.w) (sizeV c.w) ∧ remN l c = keptN (mvS l (stB c.f) (rmLo c) (rmHi c) (rmO l c) (rangeLo c.to c.w) (sizeV c.w)) (rangeLo c.to c.w) ∧ remL l c = keptL l (mvS l (stB c.f) (rmLo c) (rmHi c) (rmO l c) (rangeLo c.to c.w) (sizeV c.w)) := by
  have k := fk_ov f1 f2 h0 h h1
  rw [if_neg (by rw [hl]; simp)] at k
  obtain ⟨q1, q2⟩ := rb_fix (rm_ok0 h0).1 f1 f2 h0 hf
  obtain ⟨r1, r2, r3, r4⟩ := range_ok (bne_no h)
  have rg : RgOk (rangeLo c.to c.w) (rangeLo c.to c.w + sizeV c.w) := by rw [r3] at r1; rw [r2] at r1 ⊢; exact r1
  refine ⟨mv_fo h0 rg (by rw [rm_long h0]; exact hl), ?_, ?_⟩
  · rw [q1, show stB c.f = bitB c.f 32 from (rfl_is f1 f2).2.2.1]
    unfold kfN
    rw [k, if_neg (by simp)]
    rfl
  · rw [q2, show stB c.f = bitB c.f 32 from (rfl_is f1 f2).2.2.1]
    unfold kfL
    rw [k, if_neg (by simp)]
    rfl
theorem sh_go (hf : fxB c.f = false) (hs : stB c.f = false) (hle : decide (sizeV c.w ≤ IntKind.i64.wrap (rmHi c - rmLo c)) = true) :
    listS (woP (IntKind.i64.wrap (rmLo c + sizeV c.w) / 4096).toNat (ofL l) ((rmHi c / 4096).toNat - (IntKind.i64.wrap (rmLo c + sizeV c.w) / 4096).toNat)) = cutL l (IntKind.i64.wrap (rmLo c + sizeV c.w)) (rmHi c) ∧ (0 ≤ IntKind.i64.wrap (rmLo c + sizeV c.w) ∧ IntKind.i64.wrap (rmLo c + sizeV c.w) ≤ rmHi c ∧ rmHi c ≤ 2097152) := by
  have k := rm_rg h0
  have h1 := k.lo; have h2 := k.hi; have h3 := k.lt; have h4 := k.z; have h5 := k.z2
  have hz := rm_sz h0
  have s1 := hz.lo; have s3 := hz.z
  have hle := of_decide_eq_true hle
  rw [show IntKind.i64.wrap (rmHi c - rmLo c) = rmHi c - rmLo c from rm_diff h0] at hle
  have e : IntKind.i64.wrap (rmLo c + sizeV c.w) = rmLo c + sizeV c.w := w64_id (by unfold In64; omega)
  have hrt := (rm_found h0).rt
  rw [e]
  refine ⟨?_, by omega, by omega, h2⟩
  by_cases hc : rmLo c + sizeV c.w < rmHi c
  · exact cut_pages hrt ⟨by omega, h2, hc, by omega, h5⟩
  · have he : rmLo c + sizeV c.w = rmHi c := by omega
    rw [he, Nat.sub_self]
    show listS (ofL l) = _
    rw [list_of hrt, ← cut_all (of_rt hrt) (by rw [decide_eq_true_eq]; omega), List.append_nil]
theorem ge_4 (hf : fxB c.f = false) (hs : stB c.f = false) (hle : decide (sizeV c.w ≤ IntKind.i64.wrap (rmHi c - rmLo c)) = false) (hl : lgB l c = true) : ErrOk l c 4 := by
  refine err_of ?_ (by decide)
  rw [(rb_grow (rm_ok0 h0).1 f1 f2 h0 hf hs hle).1]
  unfold kgN
  rw [rm_long h0, if_pos hl]
abbrev gwB (l : List Ar) (c : Cl) : Bool := (rmW l c).e == rmHi c && freeS (ofL l) (IntKind.i64.wrap (Int.tdiv (rmHi c) 4096)) (IntKind.i64.wrap (Int.tdiv (IntKind.i64.wrap (IntKind.i64.wrap (sizeV c.w - rmHi c) + rmLo c)) 4096))
theorem gw_is (hle : decide (sizeV c.w ≤ IntKind.i64.wrap (rmHi c - rmLo c)) = false) : growB l (rmLo c) (rmHi c) (sizeV c.w) (rmW l c).e = gwB l c := by
  have hle := of_decide_eq_false hle
  rw [show IntKind.i64.wrap (rmHi c - rmLo c) = rmHi c - rmLo c from rm_diff h0] at hle
  unfold growB gwB
  rw [(grow_is h0 hle).1]
theorem gw_go (hf : fxB c.f = false) (hs : stB c.f = false) (hle : decide (sizeV c.w ≤ IntKind.i64.wrap (rmHi c - rmLo c)) = false) (hl : lgB l c = false) (hg : gwB l c = true) :
    remN l c = keptN (putL l (growA (rmO l c) (rmLo c) (sizeV c.w))) (rmLo c) ∧ remL l c = keptL l (putL l (growA (rmO l c) (rmLo c) (sizeV c.w))) ∧ RgOk (rmLo c) (rmLo c + sizeV c.w) ∧
    listS (withP ⟨(pgT l (rmLo c)).p, (pgT l (rmLo c)).sh, (pgT l (rmLo c)).b, (pgT l (rmLo c)).o⟩ (rmLo c / 4096).toNat (ofL l) ((IntKind.i64.wrap (rmLo c + sizeV c.w) / 4096).toNat - (rmLo c / 4096).toNat)) = putL l (growA (rmO l c) (rmLo c) (sizeV c.w)) ∧ (0 ≤ rmLo c ∧ rmLo c ≤ IntKind.i64.wrap (rmLo c + sizeV c.w) ∧ IntKind.i64.wrap (rmLo c + sizeV c.w) ≤ 2097152) := by
  obtain ⟨q1, q2⟩ := rb_grow (rm_ok0 h0).1 f1 f2 h0 hf hs hle
  have hg' := gw_is f1 f2 h0 hle
  rw [hg] at hg'
  have hgt := of_decide_eq_false hle
  rw [show IntKind.i64.wrap (rmHi c - rmLo c) = rmHi c - rmLo c from rm_diff h0] at hgt
  have k := rm_rg h0
  have g1 := k.lo; have g2 := k.hi; have g3 := k.lt; have g4 := k.z; have g5 := k.z2
  have hz := rm_sz h0
  have s1 := hz.lo; have s2 := hz.hi; have s3 := hz.z
  have rg : RgOk (rmLo c) (rmLo c + sizeV c.w) := by
    have hg2 := hg'
    unfold growB at hg2
    rw [Bool.and_eq_true, (grow_is h0 hgt).2] at hg2
    have f := (fits_iff (rm_found h0).rt (by unfold In64; omega) (by unfold In64; omega)).1 hg2.2
    exact ⟨g1, by omega, by omega, g4, by omega⟩
  have hl' : longK (rmO l c).b (rmO l c).o (sizeV c.w) = false := by rw [rm_long h0]; exact hl
  have mv := mv_fo h0 rg hl'
  have es : (rmO l c).s = rmLo c := by
    show (partA (findL l (rmLo c)) (rmLo c) (rmHi c)).s = _
    rw [fd_part (rm_found h0)]
  have ea : growA (rmO l c) (rmLo c) (sizeV c.w) = mvA (rmO l c) (rmLo c) (sizeV c.w) := by unfold growA mvA; rw [es]
  refine ⟨?_, ?_, rg, ?_, mv_side2 mv⟩
  · rw [q1]
    unfold kgN
    rw [hl', hg', if_neg (by simp), if_pos rfl]
  · rw [q2]
    unfold kgL
    rw [hl', hg', if_neg (by simp), if_pos rfl]
  · rw [ea]
    exact mv_stay mv
theorem aw_all (hf : fxB c.f = false) (hc : stB c.f = true ∨ (stB c.f = false ∧ decide (sizeV c.w ≤ IntKind.i64.wrap (rmHi c - rmLo c)) = false ∧ lgB l c = false ∧ gwB l c = false ∧ myB c.f = true)) :
    longK (rmO l c).b (rmO l c).o (sizeV c.w) = false ∧ remN l c = kaN l c.f (rmLo c) (rmHi c) (sizeV c.w) (rmO l c) ∧ remL l c = kaL l c.f (rmLo c) (rmHi c) (sizeV c.w) (rmO l c) := by
  rcases hc with hs | ⟨hs, hle, hl, hg, hy⟩
  · obtain ⟨q1, q2⟩ := rb_away (rm_ok0 h0).1 f1 f2 h0 hf hs
    exact ⟨long_dont h0 (by rw [← (rfl_is f1 f2).2.2.1]; exact hs), q1, q2⟩
  · obtain ⟨q1, q2⟩ := rb_grow (rm_ok0 h0).1 f1 f2 h0 hf hs hle
    have hl' : longK (rmO l c).b (rmO l c).o (sizeV c.w) = false := by rw [rm_long h0]; exact hl
    have hb : bitB c.f 16 = true := by rw [← (rfl_is f1 f2).2.1]; exact hy
    have hg' := gw_is f1 f2 h0 hle
    rw [hg] at hg'
    refine ⟨hl', ?_, ?_⟩
    · rw [q1]
      unfold kgN
      rw [hl', hg', hb]
      simp only [Bool.false_eq_true, if_false, if_true]
    · rw [q2]
      unfold kgL
      rw [hl', hg', hb]
      simp only [Bool.false_eq_true, if_false, if_true]
theorem ae_5 (hf : fxB c.f = false) (hs : stB c.f = false) (hle : decide (sizeV c.w ≤ IntKind.i64.wrap (rmHi c - rmLo c)) = false) (hl : lgB l c = false) (hg : gwB l c = false) (hy : myB c.f = false) : ErrOk l c 5 := by
  refine err_of ?_ (by decide)
  have hg' := gw_is f1 f2 h0 hle
  rw [hg] at hg'
  have hb : bitB c.f 16 = false := by rw [← (rfl_is f1 f2).2.1]; exact hy
  rw [(rb_grow (rm_ok0 h0).1 f1 f2 h0 hf hs hle).1]
  unfold kgN
  rw [rm_long h0, hg', hb]
  show (if lgB l c = true then _ else _) = _
  rw [hl]
  rfl
theorem ae_6 (hf : fxB c.f = false) (hc : stB c.f = true ∨ (stB c.f = false ∧ decide (sizeV c.w ≤ IntKind.i64.wrap (rmHi c - rmLo c)) = false ∧ lgB l c = false ∧ gwB l c = false ∧ myB c.f = true)) (h : decide (chooseL l 65536 2097152 (sizeV c.w) true < 0) = true) : ErrOk l c 5 := by
  obtain ⟨q0, q1, q2⟩ := aw_all f1 f2 h0 hf hc
  have hp := (place0 (rm_ok0 h0).1 (rm_sz h0)).1 h
  refine err_of ?_ (by decide)
  rw [q1]
  unfold kaN
  rw [hp]
  rfl
theorem aw_go (hf : fxB c.f = false) (hc : stB c.f = true ∨ (stB c.f = false ∧ decide (sizeV c.w ≤ IntKind.i64.wrap (rmHi c - rmLo c)) = false ∧ lgB l c = false ∧ gwB l c = false ∧ myB c.f = true)) (h : decide (chooseL l 65536 2097152 (sizeV c.w) true < 0) = false) :
    MvOk l (rmLo c) (rmHi c) (chooseL l 65536 2097152 (sizeV c.w) true) (sizeV c.w) ∧ remN l c = keptN (mvS l (stB c.f) (rmLo c) (rmHi c) (rmO l c) (chooseL l 65536 2097152 (sizeV c.w) true) (sizeV c.w)) (chooseL l 65536 2097152 (sizeV c.w) true) ∧ remL l c = keptL l (mvS l (stB c.f) (rmLo c) (rmHi c) (rmO l c) (chooseL l 65536 2097152 (sizeV c.w) true) (sizeV c.w)) := by
  obtain ⟨q0, q1, q2⟩ := aw_all f1 f2 h0 hf hc
  obtain ⟨p1, p2, p3⟩ := (place0 (rm_ok0 h0).1 (rm_sz h0)).2 h
  rw [p2] at p3
  refine ⟨mv_fo h0 p3 q0, ?_, ?_⟩
  · rw [q1, show stB c.f = bitB c.f 32 from (rfl_is f1 f2).2.2.1]
    unfold kaN
    rw [p1, p2, if_neg (by simp)]
    rfl
  · rw [q2, show stB c.f = bitB c.f 32 from (rfl_is f1 f2).2.2.1]
    unfold kaL
    rw [p1, p2, if_neg (by simp)]
    rfl
end
section
variable {l : List Ar} {c : Cl} (h0 : rmE l c = 0)
include h0
theorem one_w : oneE l (rmLo c) = (rmW l c).e := by
  unfold oneE
  rw [if_pos (rm_found h0).fd]
theorem gw_y (h1 : (oneE l (rmLo c) == rmHi c) = true) (h2 : freeS (ofL l) (IntKind.i64.wrap (Int.tdiv (rmHi c) 4096)) (IntKind.i64.wrap (Int.tdiv (IntKind.i64.wrap (IntKind.i64.wrap (sizeV c.w - rmHi c) + rmLo c)) 4096)) = true) : gwB l c = true := by
  unfold gwB
  rw [← one_w h0, h1, h2]
  rfl
theorem gw_n (h : (oneE l (rmLo c) == rmHi c) = false ∨ freeS (ofL l) (IntKind.i64.wrap (Int.tdiv (rmHi c) 4096)) (IntKind.i64.wrap (Int.tdiv (IntKind.i64.wrap (IntKind.i64.wrap (sizeV c.w - rmHi c) + rmLo c)) 4096)) = false) : gwB l c = false := by
  unfold gwB
  rw [← one_w h0]
  rcases h with h | h <;> rw [h] <;> simp
theorem hi_q : IntKind.i64.wrap (Int.tdiv (rmHi c) 4096) ≤ 9223372036854775000 := by
  have k := rm_rg h0
  have h1 := k.lo; have h2 := k.hi; have h3 := k.lt
  rw [Int.tdiv_eq_ediv_of_nonneg (by omega), show IntKind.i64.wrap (rmHi c / 4096) = rmHi c / 4096 from w64_id (by unfold In64; omega)]
  omega
theorem sz_64 : In64 (sizeV c.w) := by
  have hz := rm_sz h0
  have s1 := hz.lo; have s2 := hz.hi
  unfold In64
  omega
end
end Go.Proofs.Ytbcicjmepojlnaa.Eng
/- Contracts of functions (printed by genx.py of this work): what each hands back; condition: as its 'hside' says. -/
namespace Go.Proofs.Ytbcicjmepojlnaa.Eng
open Go Go.RowKit
set_option linter.unusedVariables false
set_option linter.unusedSimpArgs false
theorem b_rremap : Bodied Try.prog 87 := bodied Try.func87 rfl (by decide)
def F_rremap : FunX := fun κ avs => match avs with
  | [.lst l xl, .val (.agg [.v (.int .i64 c1), .v (.int .i64 c2), .v (.int .i64 c3), .v (.int .i64 c4), .v (.int .i64 c5), .v (.int .i64 c6), .v (.int .i64 c7), .v (.int .i64 c8), .v (.int .i64 c9)])] => some (κ _ (mayS l = true ∧ In64 (⟨c1, c2, c3, c4, c5, c6, c7, c8, c9⟩ : Cl).a ∧ In64 (⟨c1, c2, c3, c4, c5, c6, c7, c8, c9⟩ : Cl).to ∧ In64 (⟨c1, c2, c3, c4, c5, c6, c7, c8, c9⟩ : Cl).f), (.alt ((κ _ ((remN l (⟨c1, c2, c3, c4, c5, c6, c7, c8, c9⟩ : Cl)).er != 0))) (xl) (fun x => .tup [.c x, .agg [.v (.int .i64 (κ _ ((remN l (⟨c1, c2, c3, c4, c5, c6, c7, c8, c9⟩ : Cl)).er))), .v (.int .i64 (κ _ ((remN l (⟨c1, c2, c3, c4, c5, c6, c7, c8, c9⟩ : Cl)).v))), .v (.int .i64 (κ _ ((remN l (⟨c1, c2, c3, c4, c5, c6, c7, c8, c9⟩ : Cl)).t.p))), .v (.bool (κ _ ((remN l (⟨c1, c2, c3, c4, c5, c6, c7, c8, c9⟩ : Cl)).t.sh))), .v (.int .i64 (κ _ ((remN l (⟨c1, c2, c3, c4, c5, c6, c7, c8, c9⟩ : Cl)).t.b))), .v (.int .i64 (κ _ ((remN l (⟨c1, c2, c3, c4, c5, c6, c7, c8, c9⟩ : Cl)).t.o)))]]) ((κ _ (remL l (⟨c1, c2, c3, c4, c5, c6, c7, c8, c9⟩ : Cl)))) (fun x => .tup [.c x, .agg [.v (.int .i64 (κ _ ((remN l (⟨c1, c2, c3, c4, c5, c6, c7, c8, c9⟩ : Cl)).er))), .v (.int .i64 (κ _ ((remN l (⟨c1, c2, c3, c4, c5, c6, c7, c8, c9⟩ : Cl)).v))), .v (.int .i64 (κ _ ((remN l (⟨c1, c2, c3, c4, c5, c6, c7, c8, c9⟩ : Cl)).t.p))), .v (.bool (κ _ ((remN l (⟨c1, c2, c3, c4, c5, c6, c7, c8, c9⟩ : Cl)).t.sh))), .v (.int .i64 (κ _ ((remN l (⟨c1, c2, c3, c4, c5, c6, c7, c8, c9⟩ : Cl)).t.b))), .v (.int .i64 (κ _ ((remN l (⟨c1, c2, c3, c4, c5, c6, c7, c8, c9⟩ : Cl)).t.o)))]])))
  | _ => none
set_option maxRecDepth 100000 in
set_option maxHeartbeats 4000000 in
theorem k_rremap (l : List Ar) (c1 : Int) (c2 : Int) (c3 : Int) (c4 : Int) (c5 : Int) (c6 : Int) (c7 : Int) (c8 : Int) (c9 : Int) (Al : Option Addr) (cl : Nat) (hside : mayS l = true ∧ In64 (⟨c1, c2, c3, c4, c5, c6, c7, c8, c9⟩ : Cl).a ∧ In64 (⟨c1, c2, c3, c4, c5, c6, c7, c8, c9⟩ : Cl).to ∧ In64 (⟨c1, c2, c3, c4, c5, c6, c7, c8, c9⟩ : Cl).f) (w : World) (hl : (Ent.rd Al 6 l.length (encL l)).holds w) :
    Calls Try.prog 87 #[.slice Al l.length cl, (SV.agg [.v (.int .i64 c1), .v (.int .i64 c2), .v (.int .i64 c3), .v (.int .i64 c4), .v (.int .i64 c5), .v (.int .i64 c6), .v (.int .i64 c7), .v (.int .i64 c8), .v (.int .i64 c9)]).den] w fun e w' => ∃ v H', e = .returned v.den ∧ IsX (.alt (((remN l (⟨c1, c2, c3, c4, c5, c6, c7, c8, c9⟩ : Cl)).er != 0)) (.sl 200000 Al l.length cl) (fun x => .tup [.c x, .agg [.v (.int .i64 ((remN l (⟨c1, c2, c3, c4, c5, c6, c7, c8, c9⟩ : Cl)).er)), .v (.int .i64 ((remN l (⟨c1, c2, c3, c4, c5, c6, c7, c8, c9⟩ : Cl)).v)), .v (.int .i64 ((remN l (⟨c1, c2, c3, c4, c5, c6, c7, c8, c9⟩ : Cl)).t.p)), .v (.bool ((remN l (⟨c1, c2, c3, c4, c5, c6, c7, c8, c9⟩ : Cl)).t.sh)), .v (.int .i64 ((remN l (⟨c1, c2, c3, c4, c5, c6, c7, c8, c9⟩ : Cl)).t.b)), .v (.int .i64 ((remN l (⟨c1, c2, c3, c4, c5, c6, c7, c8, c9⟩ : Cl)).t.o))]]) ((remL l (⟨c1, c2, c3, c4, c5, c6, c7, c8, c9⟩ : Cl))) (fun x => .tup [.c x, .agg [.v (.int .i64 ((remN l (⟨c1, c2, c3, c4, c5, c6, c7, c8, c9⟩ : Cl)).er)), .v (.int .i64 ((remN l (⟨c1, c2, c3, c4, c5, c6, c7, c8, c9⟩ : Cl)).v)), .v (.int .i64 ((remN l (⟨c1, c2, c3, c4, c5, c6, c7, c8, c9⟩ : Cl)).t.p)), .v (.bool ((remN l (⟨c1, c2, c3, c4, c5, c6, c7, c8, c9⟩ : Cl)).t.sh)), .v (.int .i64 ((remN l (⟨c1, c2, c3, c4, c5, c6, c7, c8, c9⟩ : Cl)).t.b)), .v (.int .i64 ((remN l (⟨c1, c2, c3, c4, c5, c6, c7, c8, c9⟩ : Cl)).t.o))]])) v H' ∧ HSat w (fun _ => False) H' w' := by
  obtain ⟨κ, hκ⟩ : ∃ κ : Kp, κ = kid := ⟨_, rfl⟩
  have hH : HSat w (fun _ => False) (heapOf [(nilId, .rd none 1 0 []), (200000, .rd Al 6 (κ _ l.length) (κ _ (encL l)))]) w := by
    subst hκ
    refine HSat.reads fun p hp => ?_
    simp only [List.mem_cons, List.not_mem_nil, or_false] at hp
    rcases hp with rfl | rfl
    · exact ⟨_, _, _, _, rfl, nil_holds w⟩
    · exact ⟨_, _, _, _, rfl, hl⟩
  refine (callsP (n := 243) FTok [e_rrange hκ, e_rsize hκ, e_rone hκ, e_of hκ, e_rmoved hκ, e_rwithout hκ, e_rwith hκ, e_rkept hκ, e_rfree hκ, e_rchoose hκ] mixed [] Try.func87 rfl (by kernel_rfl) #[.slice Al l.length cl, (SV.agg [.v (.int .i64 c1), .v (.int .i64 c2), .v (.int .i64 c3), .v (.int .i64 c4), .v (.int .i64 c5), .v (.int .i64 c6), .v (.int .i64 c7), .v (.int .i64 c8), .v (.int .i64 c9)]).den] [(0, .c (.sl 200000 Al (κ _ l.length) cl)), (1, .agg [.v (.int .i64 c1), .v (.int .i64 c2), .v (.int .i64 c3), .v (.int .i64 c4), .v (.int .i64 c5), .v (.int .i64 c6), .v (.int .i64 c7), .v (.int .i64 c8), .v (.int .i64 c9)])] _ w rfl [.tmp 4, .cell 5 31] rfl (by simp) (by subst hκ; simp [SV.den, C.den, kid]) hH (fun v H' => IsX (.alt ((κ _ ((remN l (⟨c1, c2, c3, c4, c5, c6, c7, c8, c9⟩ : Cl)).er != 0))) (.sl 200000 Al (κ _ l.length) cl) (fun x => .tup [.c x, .agg [.v (.int .i64 (κ _ ((remN l (⟨c1, c2, c3, c4, c5, c6, c7, c8, c9⟩ : Cl)).er))), .v (.int .i64 (κ _ ((remN l (⟨c1, c2, c3, c4, c5, c6, c7, c8, c9⟩ : Cl)).v))), .v (.int .i64 (κ _ ((remN l (⟨c1, c2, c3, c4, c5, c6, c7, c8, c9⟩ : Cl)).t.p))), .v (.bool (κ _ ((remN l (⟨c1, c2, c3, c4, c5, c6, c7, c8, c9⟩ : Cl)).t.sh))), .v (.int .i64 (κ _ ((remN l (⟨c1, c2, c3, c4, c5, c6, c7, c8, c9⟩ : Cl)).t.b))), .v (.int .i64 (κ _ ((remN l (⟨c1, c2, c3, c4, c5, c6, c7, c8, c9⟩ : Cl)).t.o)))]]) ((κ _ (remL l (⟨c1, c2, c3, c4, c5, c6, c7, c8, c9⟩ : Cl)))) (fun x => .tup [.c x, .agg [.v (.int .i64 (κ _ ((remN l (⟨c1, c2, c3, c4, c5, c6, c7, c8, c9⟩ : Cl)).er))), .v (.int .i64 (κ _ ((remN l (⟨c1, c2, c3, c4, c5, c6, c7, c8, c9⟩ : Cl)).v))), .v (.int .i64 (κ _ ((remN l (⟨c1, c2, c3, c4, c5, c6, c7, c8, c9⟩ : Cl)).t.p))), .v (.bool (κ _ ((remN l (⟨c1, c2, c3, c4, c5, c6, c7, c8, c9⟩ : Cl)).t.sh))), .v (.int .i64 (κ _ ((remN l (⟨c1, c2, c3, c4, c5, c6, c7, c8, c9⟩ : Cl)).t.b))), .v (.int .i64 (κ _ ((remN l (⟨c1, c2, c3, c4, c5, c6, c7, c8, c9⟩ : Cl)).t.o)))]])) v H') hκ ?_).mono ?_
  rotate_left
  · subst hκ; intro e w' h; exact h
  intro P' hP'
  cbv
  have hrt := mayS_rt hside.1
  repeat' (first | refine And.intro ?_ ?_ | (intro _; cbv) | (refine tst_mk (fun h => ?_) (fun h => ?_) <;> first | (exfalso; subst hκ; delta kid at h; exact absurd h (by decide)) | (exfalso; subst hκ; delta kid at *; cases (h.symm.trans (by with_reducible assumption : _ = false)); done) | (exfalso; subst hκ; delta kid at *; cases (h.symm.trans (by with_reducible assumption : _ = true)); done) | (exfalso; subst hκ; delta kid at *; exact (beq_no (by with_reducible assumption)) (bne_no h)) | (exfalso; subst hκ; delta kid at *; exact (beq_no h) (beq_yes (by with_reducible assumption))) | (exfalso; subst hκ; delta kid at *; exact (beq_no (by with_reducible assumption)) (beq_yes h)) | cbv) | (refine LookX.nil ?_; cbv) | (refine LookX.auto hκ ?_; cbv) | (refine LookN.mk' (x := [.v (.int .i64 (κ _ (pgT l (rangeLo c2 c3)).p)), .v (.bool (κ _ (pgT l (rangeLo c2 c3)).sh)), .v (.int .i64 (κ _ (pgT l (rangeLo c2 c3)).b)), .v (.int .i64 (κ _ (pgT l (rangeLo c2 c3)).o))]) (by subst hκ; delta kid at *; exact adr_attrZ (ofL_len l) (rg_adr (by with_reducible assumption)).1 (rg_adr (by with_reducible assumption)).2) ?_; cbv) | (refine LookN.mk' (x := κ _ (encS (ofL l))) (by subst hκ; delta kid at *; exact (by rw [zero_put (ofL_len _)]; exact whole_take (ofL_len _))) ?_; cbv))
  all_goals (try (show Side _; refine ⟨?_⟩; subst hκ; delta kid at *; first | exact rfl | exact trivial | exact ⟨rfl, rfl, .inl rfl⟩ | exact ⟨hrt.1.1, by omega⟩ | exact hside.2.1 | exact hside.2.2.1 | exact ofL_len l | exact ⟨hrt.1, by omega⟩ | ((try dsimp only at *); (try simp only [setTo_len, noS_len, List.length_append, List.length_cons, List.length_nil, List.length_map, and_self, true_or, or_true, eq_self, true_and, and_true, Nat.zero_add, Nat.add_zero]); (first | done | omega); done)))
  all_goals (try (show _ = true; subst hκ; delta kid; (have ho := encS_ok (ofL l); generalize encS (ofL l) = xs at ho ⊢; cases xs <;> exact ho)))
  all_goals (try (show 2560 = _; subst hκ; delta kid; (have ho := encS_len2 (s := ofL l) (ofL_len l); generalize encS (ofL l) = xs at ho ⊢; cases xs <;> exact ho.symm)))
  all_goals (clear hH; subst hκ; delta kid at *; (try dsimp only at *))
  all_goals (try (show Side _; refine ⟨?_⟩; first | exact ⟨(fx_go (c := (⟨c1, c2, c3, c4, c5, c6, c7, c8, c9⟩ : Cl)) (by with_reducible assumption) (by with_reducible assumption) (rmE_ok (c := (⟨c1, c2, c3, c4, c5, c6, c7, c8, c9⟩ : Cl)) hside.1 (rmE0_st (c := (⟨c1, c2, c3, c4, c5, c6, c7, c8, c9⟩ : Cl)) hside.1 (by with_reducible assumption) (by with_reducible assumption) (rmFl_ok (f := c7) (by with_reducible assumption) (by with_reducible assumption) (by with_reducible assumption) (by first | exact .inl (by with_reducible assumption) | exact .inr ⟨(by with_reducible assumption), (by with_reducible assumption)⟩)) (by with_reducible assumption) (by with_reducible assumption) (by first | exact .inl (by with_reducible assumption) | exact .inr (by with_reducible assumption))) (by with_reducible assumption)) (by with_reducible assumption) (eq_bne (by with_reducible assumption)) (by first | exact .inl (by with_reducible assumption) | exact .inr (by with_reducible assumption)) (lg_n (c := (⟨c1, c2, c3, c4, c5, c6, c7, c8, c9⟩ : Cl)) (by first | exact .inl (by with_reducible assumption) | exact .inr (by with_reducible assumption)))).1, (Nat.le_trans hrt.2 (by decide))⟩ | exact ⟨(aw_go (c := (⟨c1, c2, c3, c4, c5, c6, c7, c8, c9⟩ : Cl)) (by with_reducible assumption) (by with_reducible assumption) (rmE_ok (c := (⟨c1, c2, c3, c4, c5, c6, c7, c8, c9⟩ : Cl)) hside.1 (rmE0_st (c := (⟨c1, c2, c3, c4, c5, c6, c7, c8, c9⟩ : Cl)) hside.1 (by with_reducible assumption) (by with_reducible assumption) (rmFl_ok (f := c7) (by with_reducible assumption) (by with_reducible assumption) (by with_reducible assumption) (by first | exact .inl (by with_reducible assumption) | exact .inr ⟨(by with_reducible assumption), (by with_reducible assumption)⟩)) (by with_reducible assumption) (by with_reducible assumption) (by first | exact .inl (by with_reducible assumption) | exact .inr (by with_reducible assumption))) (by with_reducible assumption)) (by with_reducible assumption) (by first | exact .inl (by with_reducible assumption) | exact .inr ⟨(by with_reducible assumption), (by with_reducible assumption), (lg_n (c := (⟨c1, c2, c3, c4, c5, c6, c7, c8, c9⟩ : Cl)) (by first | exact .inl (by with_reducible assumption) | exact .inr (by with_reducible assumption))), (gw_n (c := (⟨c1, c2, c3, c4, c5, c6, c7, c8, c9⟩ : Cl)) (rmE_ok (c := (⟨c1, c2, c3, c4, c5, c6, c7, c8, c9⟩ : Cl)) hside.1 (rmE0_st (c := (⟨c1, c2, c3, c4, c5, c6, c7, c8, c9⟩ : Cl)) hside.1 (by with_reducible assumption) (by with_reducible assumption) (rmFl_ok (f := c7) (by with_reducible assumption) (by with_reducible assumption) (by with_reducible assumption) (by first | exact .inl (by with_reducible assumption) | exact .inr ⟨(by with_reducible assumption), (by with_reducible assumption)⟩)) (by with_reducible assumption) (by with_reducible assumption) (by first | exact .inl (by with_reducible assumption) | exact .inr (by with_reducible assumption))) (by with_reducible assumption)) (by first | exact .inl (by with_reducible assumption) | exact .inr (by with_reducible assumption))), (by with_reducible assumption)⟩) (by with_reducible assumption)).1, (Nat.le_trans hrt.2 (by decide))⟩ | exact adr_in (rg_adr (by with_reducible assumption)).1 (rg_adr (by with_reducible assumption)).2 | exact zero_fits (ofL_len l) | exact hi_q (c := (⟨c1, c2, c3, c4, c5, c6, c7, c8, c9⟩ : Cl)) (rmE_ok (c := (⟨c1, c2, c3, c4, c5, c6, c7, c8, c9⟩ : Cl)) hside.1 (rmE0_st (c := (⟨c1, c2, c3, c4, c5, c6, c7, c8, c9⟩ : Cl)) hside.1 (by with_reducible assumption) (by with_reducible assumption) (rmFl_ok (f := c7) (by with_reducible assumption) (by with_reducible assumption) (by with_reducible assumption) (by first | exact .inl (by with_reducible assumption) | exact .inr ⟨(by with_reducible assumption), (by with_reducible assumption)⟩)) (by with_reducible assumption) (by with_reducible assumption) (by first | exact .inl (by with_reducible assumption) | exact .inr (by with_reducible assumption))) (by with_reducible assumption)) | exact ⟨hrt.1, (Nat.le_trans hrt.2 (by decide)), sz_64 (c := (⟨c1, c2, c3, c4, c5, c6, c7, c8, c9⟩ : Cl)) (rmE_ok (c := (⟨c1, c2, c3, c4, c5, c6, c7, c8, c9⟩ : Cl)) hside.1 (rmE0_st (c := (⟨c1, c2, c3, c4, c5, c6, c7, c8, c9⟩ : Cl)) hside.1 (by with_reducible assumption) (by with_reducible assumption) (rmFl_ok (f := c7) (by with_reducible assumption) (by with_reducible assumption) (by with_reducible assumption) (by first | exact .inl (by with_reducible assumption) | exact .inr ⟨(by with_reducible assumption), (by with_reducible assumption)⟩)) (by with_reducible assumption) (by with_reducible assumption) (by first | exact .inl (by with_reducible assumption) | exact .inr (by with_reducible assumption))) (by with_reducible assumption))⟩ | exact (sh_go (c := (⟨c1, c2, c3, c4, c5, c6, c7, c8, c9⟩ : Cl)) (by with_reducible assumption) (by with_reducible assumption) (rmE_ok (c := (⟨c1, c2, c3, c4, c5, c6, c7, c8, c9⟩ : Cl)) hside.1 (rmE0_st (c := (⟨c1, c2, c3, c4, c5, c6, c7, c8, c9⟩ : Cl)) hside.1 (by with_reducible assumption) (by with_reducible assumption) (rmFl_ok (f := c7) (by with_reducible assumption) (by with_reducible assumption) (by with_reducible assumption) (by first | exact .inl (by with_reducible assumption) | exact .inr ⟨(by with_reducible assumption), (by with_reducible assumption)⟩)) (by with_reducible assumption) (by with_reducible assumption) (by first | exact .inl (by with_reducible assumption) | exact .inr (by with_reducible assumption))) (by with_reducible assumption)) (by with_reducible assumption) (by with_reducible assumption) (by with_reducible assumption)).2 | exact (gw_go (c := (⟨c1, c2, c3, c4, c5, c6, c7, c8, c9⟩ : Cl)) (by with_reducible assumption) (by with_reducible assumption) (rmE_ok (c := (⟨c1, c2, c3, c4, c5, c6, c7, c8, c9⟩ : Cl)) hside.1 (rmE0_st (c := (⟨c1, c2, c3, c4, c5, c6, c7, c8, c9⟩ : Cl)) hside.1 (by with_reducible assumption) (by with_reducible assumption) (rmFl_ok (f := c7) (by with_reducible assumption) (by with_reducible assumption) (by with_reducible assumption) (by first | exact .inl (by with_reducible assumption) | exact .inr ⟨(by with_reducible assumption), (by with_reducible assumption)⟩)) (by with_reducible assumption) (by with_reducible assumption) (by first | exact .inl (by with_reducible assumption) | exact .inr (by with_reducible assumption))) (by with_reducible assumption)) (by with_reducible assumption) (by with_reducible assumption) (by with_reducible assumption) (lg_n (c := (⟨c1, c2, c3, c4, c5, c6, c7, c8, c9⟩ : Cl)) (by first | exact .inl (by with_reducible assumption) | exact .inr (by with_reducible assumption))) (gw_y (c := (⟨c1, c2, c3, c4, c5, c6, c7, c8, c9⟩ : Cl)) (rmE_ok (c := (⟨c1, c2, c3, c4, c5, c6, c7, c8, c9⟩ : Cl)) hside.1 (rmE0_st (c := (⟨c1, c2, c3, c4, c5, c6, c7, c8, c9⟩ : Cl)) hside.1 (by with_reducible assumption) (by with_reducible assumption) (rmFl_ok (f := c7) (by with_reducible assumption) (by with_reducible assumption) (by with_reducible assumption) (by first | exact .inl (by with_reducible assumption) | exact .inr ⟨(by with_reducible assumption), (by with_reducible assumption)⟩)) (by with_reducible assumption) (by with_reducible assumption) (by first | exact .inl (by with_reducible assumption) | exact .inr (by with_reducible assumption))) (by with_reducible assumption)) (by with_reducible assumption) (by with_reducible assumption))).2.2.2.2 | exact (withP_len _ _ _ _).trans (ofL_len l) | exact (woP_len _ _ _).trans (ofL_len l) | exact ofL_len l))
  all_goals (try (show IsX _ _ _; first | (have hb : rmE l (⟨c1, c2, c3, c4, c5, c6, c7, c8, c9⟩ : Cl) = _ := rmE_flag hside.1 (rfl_no hside.2.2.2 (.inl (by with_reducible assumption))); have hc := rm_bad (c := (⟨c1, c2, c3, c4, c5, c6, c7, c8, c9⟩ : Cl)) hside.1 hb (by decide); refine IsX.sameM rfl (fun x => ?_) hc.2.2; simp only [hc.1, errA, noAt]; done) | (have hb : rmE l (⟨c1, c2, c3, c4, c5, c6, c7, c8, c9⟩ : Cl) = _ := rmE_flag hside.1 (rfl_no hside.2.2.2 (.inr (by with_reducible assumption))); have hc := rm_bad (c := (⟨c1, c2, c3, c4, c5, c6, c7, c8, c9⟩ : Cl)) hside.1 hb (by decide); refine IsX.sameM rfl (fun x => ?_) hc.2.2; simp only [hc.1, errA, noAt]; done) | (have hb : rmE l (⟨c1, c2, c3, c4, c5, c6, c7, c8, c9⟩ : Cl) = _ := rmE_flag hside.1 (rmFl_b3 (f := c7) (by with_reducible assumption) (by with_reducible assumption) (by with_reducible assumption)); have hc := rm_bad (c := (⟨c1, c2, c3, c4, c5, c6, c7, c8, c9⟩ : Cl)) hside.1 hb (by decide); refine IsX.sameM rfl (fun x => ?_) hc.2.2; simp only [hc.1, errA, noAt]; done) | (have hb : rmE l (⟨c1, c2, c3, c4, c5, c6, c7, c8, c9⟩ : Cl) = _ := rmE_flag hside.1 (rmFl_b4 (f := c7) (by with_reducible assumption) (by with_reducible assumption) (by with_reducible assumption) (.inl (by with_reducible assumption))); have hc := rm_bad (c := (⟨c1, c2, c3, c4, c5, c6, c7, c8, c9⟩ : Cl)) hside.1 hb (by decide); refine IsX.sameM rfl (fun x => ?_) hc.2.2; simp only [hc.1, errA, noAt]; done) | (have hb : rmE l (⟨c1, c2, c3, c4, c5, c6, c7, c8, c9⟩ : Cl) = _ := rmE_flag hside.1 (rmFl_b4 (f := c7) (by with_reducible assumption) (by with_reducible assumption) (by with_reducible assumption) (.inr (by with_reducible assumption))); have hc := rm_bad (c := (⟨c1, c2, c3, c4, c5, c6, c7, c8, c9⟩ : Cl)) hside.1 hb (by decide); refine IsX.sameM rfl (fun x => ?_) hc.2.2; simp only [hc.1, errA, noAt]; done) | (have hb : rmE l (⟨c1, c2, c3, c4, c5, c6, c7, c8, c9⟩ : Cl) = _ := rmE_range (c := (⟨c1, c2, c3, c4, c5, c6, c7, c8, c9⟩ : Cl)) hside.1 (rmFl_ok (f := c7) (by with_reducible assumption) (by with_reducible assumption) (by with_reducible assumption) (by first | exact .inl (by with_reducible assumption) | exact .inr ⟨(by with_reducible assumption), (by with_reducible assumption)⟩)) (by with_reducible assumption); have hc := rm_bad (c := (⟨c1, c2, c3, c4, c5, c6, c7, c8, c9⟩ : Cl)) hside.1 hb (by with_reducible assumption); refine IsX.sameM rfl (fun x => ?_) hc.2.2; simp only [hc.1, errA, noAt]; done) | (have hb : rmE l (⟨c1, c2, c3, c4, c5, c6, c7, c8, c9⟩ : Cl) = _ := rmE_size (c := (⟨c1, c2, c3, c4, c5, c6, c7, c8, c9⟩ : Cl)) hside.1 (rmFl_ok (f := c7) (by with_reducible assumption) (by with_reducible assumption) (by with_reducible assumption) (by first | exact .inl (by with_reducible assumption) | exact .inr ⟨(by with_reducible assumption), (by with_reducible assumption)⟩)) (by with_reducible assumption) (by with_reducible assumption); have hc := rm_bad (c := (⟨c1, c2, c3, c4, c5, c6, c7, c8, c9⟩ : Cl)) hside.1 hb (by with_reducible assumption); refine IsX.sameM rfl (fun x => ?_) hc.2.2; simp only [hc.1, errA, noAt]; done) | (have hb : rmE l (⟨c1, c2, c3, c4, c5, c6, c7, c8, c9⟩ : Cl) = _ := rmE_st (c := (⟨c1, c2, c3, c4, c5, c6, c7, c8, c9⟩ : Cl)) hside.1 (by with_reducible assumption) (by with_reducible assumption) (rmFl_ok (f := c7) (by with_reducible assumption) (by with_reducible assumption) (by with_reducible assumption) (by first | exact .inl (by with_reducible assumption) | exact .inr ⟨(by with_reducible assumption), (by with_reducible assumption)⟩)) (by with_reducible assumption) (by with_reducible assumption) (by with_reducible assumption) (by with_reducible assumption); have hc := rm_bad (c := (⟨c1, c2, c3, c4, c5, c6, c7, c8, c9⟩ : Cl)) hside.1 hb (by decide); refine IsX.sameM rfl (fun x => ?_) hc.2.2; simp only [hc.1, errA, noAt]; done) | (have hb : rmE l (⟨c1, c2, c3, c4, c5, c6, c7, c8, c9⟩ : Cl) = _ := rmE_none (c := (⟨c1, c2, c3, c4, c5, c6, c7, c8, c9⟩ : Cl)) hside.1 (rmE0_st (c := (⟨c1, c2, c3, c4, c5, c6, c7, c8, c9⟩ : Cl)) hside.1 (by with_reducible assumption) (by with_reducible assumption) (rmFl_ok (f := c7) (by with_reducible assumption) (by with_reducible assumption) (by with_reducible assumption) (by first | exact .inl (by with_reducible assumption) | exact .inr ⟨(by with_reducible assumption), (by with_reducible assumption)⟩)) (by with_reducible assumption) (by with_reducible assumption) (by first | exact .inl (by with_reducible assumption) | exact .inr (by with_reducible assumption))) (by with_reducible assumption); have hc := rm_bad (c := (⟨c1, c2, c3, c4, c5, c6, c7, c8, c9⟩ : Cl)) hside.1 hb (by decide); refine IsX.sameM rfl (fun x => ?_) hc.2.2; simp only [hc.1, errA, noAt]; done) | (have hc : ErrOk l (⟨c1, c2, c3, c4, c5, c6, c7, c8, c9⟩ : Cl) _ := fe_1 (c := (⟨c1, c2, c3, c4, c5, c6, c7, c8, c9⟩ : Cl)) (by with_reducible assumption) (by with_reducible assumption) (rmE_ok (c := (⟨c1, c2, c3, c4, c5, c6, c7, c8, c9⟩ : Cl)) hside.1 (rmE0_st (c := (⟨c1, c2, c3, c4, c5, c6, c7, c8, c9⟩ : Cl)) hside.1 (by with_reducible assumption) (by with_reducible assumption) (rmFl_ok (f := c7) (by with_reducible assumption) (by with_reducible assumption) (by with_reducible assumption) (by first | exact .inl (by with_reducible assumption) | exact .inr ⟨(by with_reducible assumption), (by with_reducible assumption)⟩)) (by with_reducible assumption) (by with_reducible assumption) (by first | exact .inl (by with_reducible assumption) | exact .inr (by with_reducible assumption))) (by with_reducible assumption)) (by with_reducible assumption) (by with_reducible assumption); refine IsX.sameM rfl (fun x => ?_) hc.er; simp only [hc.n, errA, noAt]; done) | (have hc : ErrOk l (⟨c1, c2, c3, c4, c5, c6, c7, c8, c9⟩ : Cl) _ := fe_2 (c := (⟨c1, c2, c3, c4, c5, c6, c7, c8, c9⟩ : Cl)) (by with_reducible assumption) (by with_reducible assumption) (rmE_ok (c := (⟨c1, c2, c3, c4, c5, c6, c7, c8, c9⟩ : Cl)) hside.1 (rmE0_st (c := (⟨c1, c2, c3, c4, c5, c6, c7, c8, c9⟩ : Cl)) hside.1 (by with_reducible assumption) (by with_reducible assumption) (rmFl_ok (f := c7) (by with_reducible assumption) (by with_reducible assumption) (by with_reducible assumption) (by first | exact .inl (by with_reducible assumption) | exact .inr ⟨(by with_reducible assumption), (by with_reducible assumption)⟩)) (by with_reducible assumption) (by with_reducible assumption) (by first | exact .inl (by with_reducible assumption) | exact .inr (by with_reducible assumption))) (by with_reducible assumption)) (by with_reducible assumption) (eq_bne (by with_reducible assumption)) (by with_reducible assumption) (by with_reducible assumption); refine IsX.sameM rfl (fun x => ?_) hc.er; simp only [hc.n, errA, noAt]; done) | (have hc : ErrOk l (⟨c1, c2, c3, c4, c5, c6, c7, c8, c9⟩ : Cl) _ := fe_4 (c := (⟨c1, c2, c3, c4, c5, c6, c7, c8, c9⟩ : Cl)) (by with_reducible assumption) (by with_reducible assumption) (rmE_ok (c := (⟨c1, c2, c3, c4, c5, c6, c7, c8, c9⟩ : Cl)) hside.1 (rmE0_st (c := (⟨c1, c2, c3, c4, c5, c6, c7, c8, c9⟩ : Cl)) hside.1 (by with_reducible assumption) (by with_reducible assumption) (rmFl_ok (f := c7) (by with_reducible assumption) (by with_reducible assumption) (by with_reducible assumption) (by first | exact .inl (by with_reducible assumption) | exact .inr ⟨(by with_reducible assumption), (by with_reducible assumption)⟩)) (by with_reducible assumption) (by with_reducible assumption) (by first | exact .inl (by with_reducible assumption) | exact .inr (by with_reducible assumption))) (by with_reducible assumption)) (by with_reducible assumption) (eq_bne (by with_reducible assumption)) (by first | exact .inl (by with_reducible assumption) | exact .inr (by with_reducible assumption)) (lg_y (c := (⟨c1, c2, c3, c4, c5, c6, c7, c8, c9⟩ : Cl)) (by with_reducible assumption) (by with_reducible assumption)); refine IsX.sameM rfl (fun x => ?_) hc.er; simp only [hc.n, errA, noAt]; done) | (obtain ⟨k1, k2⟩ := (fx_go (c := (⟨c1, c2, c3, c4, c5, c6, c7, c8, c9⟩ : Cl)) (by with_reducible assumption) (by with_reducible assumption) (rmE_ok (c := (⟨c1, c2, c3, c4, c5, c6, c7, c8, c9⟩ : Cl)) hside.1 (rmE0_st (c := (⟨c1, c2, c3, c4, c5, c6, c7, c8, c9⟩ : Cl)) hside.1 (by with_reducible assumption) (by with_reducible assumption) (rmFl_ok (f := c7) (by with_reducible assumption) (by with_reducible assumption) (by with_reducible assumption) (by first | exact .inl (by with_reducible assumption) | exact .inr ⟨(by with_reducible assumption), (by with_reducible assumption)⟩)) (by with_reducible assumption) (by with_reducible assumption) (by first | exact .inl (by with_reducible assumption) | exact .inr (by with_reducible assumption))) (by with_reducible assumption)) (by with_reducible assumption) (eq_bne (by with_reducible assumption)) (by first | exact .inl (by with_reducible assumption) | exact .inr (by with_reducible assumption)) (lg_n (c := (⟨c1, c2, c3, c4, c5, c6, c7, c8, c9⟩ : Cl)) (by first | exact .inl (by with_reducible assumption) | exact .inr (by with_reducible assumption)))).2; first | (have hc := rk_no k1 (by with_reducible assumption); refine IsX.sameM rfl (fun x => ?_) hc.2; simp only [hc.1, errA, noAt]; done) | (have hc := rk_yes k1 k2 (by with_reducible assumption); refine IsX.newM rfl rfl (fun x => ?_) hc.2.1 hc.2.2; simp only [hc.1, okA, noAt]; done)) | (obtain ⟨k1, k2⟩ := rb_shrink (c := (⟨c1, c2, c3, c4, c5, c6, c7, c8, c9⟩ : Cl)) hside.1 (by with_reducible assumption) (by with_reducible assumption) (rmE_ok (c := (⟨c1, c2, c3, c4, c5, c6, c7, c8, c9⟩ : Cl)) hside.1 (rmE0_st (c := (⟨c1, c2, c3, c4, c5, c6, c7, c8, c9⟩ : Cl)) hside.1 (by with_reducible assumption) (by with_reducible assumption) (rmFl_ok (f := c7) (by with_reducible assumption) (by with_reducible assumption) (by with_reducible assumption) (by first | exact .inl (by with_reducible assumption) | exact .inr ⟨(by with_reducible assumption), (by with_reducible assumption)⟩)) (by with_reducible assumption) (by with_reducible assumption) (by first | exact .inl (by with_reducible assumption) | exact .inr (by with_reducible assumption))) (by with_reducible assumption)) (by with_reducible assumption) (by with_reducible assumption) (by with_reducible assumption); have e := (sh_go (c := (⟨c1, c2, c3, c4, c5, c6, c7, c8, c9⟩ : Cl)) (by with_reducible assumption) (by with_reducible assumption) (rmE_ok (c := (⟨c1, c2, c3, c4, c5, c6, c7, c8, c9⟩ : Cl)) hside.1 (rmE0_st (c := (⟨c1, c2, c3, c4, c5, c6, c7, c8, c9⟩ : Cl)) hside.1 (by with_reducible assumption) (by with_reducible assumption) (rmFl_ok (f := c7) (by with_reducible assumption) (by with_reducible assumption) (by with_reducible assumption) (by first | exact .inl (by with_reducible assumption) | exact .inr ⟨(by with_reducible assumption), (by with_reducible assumption)⟩)) (by with_reducible assumption) (by with_reducible assumption) (by first | exact .inl (by with_reducible assumption) | exact .inr (by with_reducible assumption))) (by with_reducible assumption)) (by with_reducible assumption) (by with_reducible assumption) (by with_reducible assumption)).1; first | (have hc := rk_no k1 (by rw [← e]; assumption); refine IsX.sameM rfl (fun x => ?_) hc.2; simp only [hc.1, errA, noAt]; done) | (have hc := rk_yes k1 k2 (by rw [← e]; assumption); refine IsX.newM rfl rfl (fun x => ?_) hc.2.1 (e.trans hc.2.2); simp only [hc.1, okA, noAt]; done)) | (have hc : ErrOk l (⟨c1, c2, c3, c4, c5, c6, c7, c8, c9⟩ : Cl) _ := ge_4 (c := (⟨c1, c2, c3, c4, c5, c6, c7, c8, c9⟩ : Cl)) (by with_reducible assumption) (by with_reducible assumption) (rmE_ok (c := (⟨c1, c2, c3, c4, c5, c6, c7, c8, c9⟩ : Cl)) hside.1 (rmE0_st (c := (⟨c1, c2, c3, c4, c5, c6, c7, c8, c9⟩ : Cl)) hside.1 (by with_reducible assumption) (by with_reducible assumption) (rmFl_ok (f := c7) (by with_reducible assumption) (by with_reducible assumption) (by with_reducible assumption) (by first | exact .inl (by with_reducible assumption) | exact .inr ⟨(by with_reducible assumption), (by with_reducible assumption)⟩)) (by with_reducible assumption) (by with_reducible assumption) (by first | exact .inl (by with_reducible assumption) | exact .inr (by with_reducible assumption))) (by with_reducible assumption)) (by with_reducible assumption) (by with_reducible assumption) (by with_reducible assumption) (lg_y (c := (⟨c1, c2, c3, c4, c5, c6, c7, c8, c9⟩ : Cl)) (by with_reducible assumption) (by with_reducible assumption)); refine IsX.sameM rfl (fun x => ?_) hc.er; simp only [hc.n, errA, noAt]; done) | (obtain ⟨g1, g2, g3, g4, g5⟩ := gw_go (c := (⟨c1, c2, c3, c4, c5, c6, c7, c8, c9⟩ : Cl)) (by with_reducible assumption) (by with_reducible assumption) (rmE_ok (c := (⟨c1, c2, c3, c4, c5, c6, c7, c8, c9⟩ : Cl)) hside.1 (rmE0_st (c := (⟨c1, c2, c3, c4, c5, c6, c7, c8, c9⟩ : Cl)) hside.1 (by with_reducible assumption) (by with_reducible assumption) (rmFl_ok (f := c7) (by with_reducible assumption) (by with_reducible assumption) (by with_reducible assumption) (by first | exact .inl (by with_reducible assumption) | exact .inr ⟨(by with_reducible assumption), (by with_reducible assumption)⟩)) (by with_reducible assumption) (by with_reducible assumption) (by first | exact .inl (by with_reducible assumption) | exact .inr (by with_reducible assumption))) (by with_reducible assumption)) (by with_reducible assumption) (by with_reducible assumption) (by with_reducible assumption) (lg_n (c := (⟨c1, c2, c3, c4, c5, c6, c7, c8, c9⟩ : Cl)) (by first | exact .inl (by with_reducible assumption) | exact .inr (by with_reducible assumption))) (gw_y (c := (⟨c1, c2, c3, c4, c5, c6, c7, c8, c9⟩ : Cl)) (rmE_ok (c := (⟨c1, c2, c3, c4, c5, c6, c7, c8, c9⟩ : Cl)) hside.1 (rmE0_st (c := (⟨c1, c2, c3, c4, c5, c6, c7, c8, c9⟩ : Cl)) hside.1 (by with_reducible assumption) (by with_reducible assumption) (rmFl_ok (f := c7) (by with_reducible assumption) (by with_reducible assumption) (by with_reducible assumption) (by first | exact .inl (by with_reducible assumption) | exact .inr ⟨(by with_reducible assumption), (by with_reducible assumption)⟩)) (by with_reducible assumption) (by with_reducible assumption) (by first | exact .inl (by with_reducible assumption) | exact .inr (by with_reducible assumption))) (by with_reducible assumption)) (by with_reducible assumption) (by with_reducible assumption)); obtain ⟨k1, k2⟩ := (⟨g1, g2⟩ : _ ∧ _); have e := g4; first | (have hc := rk_no k1 (by rw [← e]; assumption); refine IsX.sameM rfl (fun x => ?_) hc.2; simp only [hc.1, errA, noAt]; done) | (have hc := rk_yes k1 k2 (by rw [← e]; assumption); refine IsX.newM rfl rfl (fun x => ?_) hc.2.1 (e.trans hc.2.2); simp only [hc.1, okA, noAt]; done)) | (have hc : ErrOk l (⟨c1, c2, c3, c4, c5, c6, c7, c8, c9⟩ : Cl) _ := ae_5 (c := (⟨c1, c2, c3, c4, c5, c6, c7, c8, c9⟩ : Cl)) (by with_reducible assumption) (by with_reducible assumption) (rmE_ok (c := (⟨c1, c2, c3, c4, c5, c6, c7, c8, c9⟩ : Cl)) hside.1 (rmE0_st (c := (⟨c1, c2, c3, c4, c5, c6, c7, c8, c9⟩ : Cl)) hside.1 (by with_reducible assumption) (by with_reducible assumption) (rmFl_ok (f := c7) (by with_reducible assumption) (by with_reducible assumption) (by with_reducible assumption) (by first | exact .inl (by with_reducible assumption) | exact .inr ⟨(by with_reducible assumption), (by with_reducible assumption)⟩)) (by with_reducible assumption) (by with_reducible assumption) (by first | exact .inl (by with_reducible assumption) | exact .inr (by with_reducible assumption))) (by with_reducible assumption)) (by with_reducible assumption) (by with_reducible assumption) (by with_reducible assumption) (lg_n (c := (⟨c1, c2, c3, c4, c5, c6, c7, c8, c9⟩ : Cl)) (by first | exact .inl (by with_reducible assumption) | exact .inr (by with_reducible assumption))) (gw_n (c := (⟨c1, c2, c3, c4, c5, c6, c7, c8, c9⟩ : Cl)) (rmE_ok (c := (⟨c1, c2, c3, c4, c5, c6, c7, c8, c9⟩ : Cl)) hside.1 (rmE0_st (c := (⟨c1, c2, c3, c4, c5, c6, c7, c8, c9⟩ : Cl)) hside.1 (by with_reducible assumption) (by with_reducible assumption) (rmFl_ok (f := c7) (by with_reducible assumption) (by with_reducible assumption) (by with_reducible assumption) (by first | exact .inl (by with_reducible assumption) | exact .inr ⟨(by with_reducible assumption), (by with_reducible assumption)⟩)) (by with_reducible assumption) (by with_reducible assumption) (by first | exact .inl (by with_reducible assumption) | exact .inr (by with_reducible assumption))) (by with_reducible assumption)) (by first | exact .inl (by with_reducible assumption) | exact .inr (by with_reducible assumption))) (by with_reducible assumption); refine IsX.sameM rfl (fun x => ?_) hc.er; simp only [hc.n, errA, noAt]; done) | (have hc : ErrOk l (⟨c1, c2, c3, c4, c5, c6, c7, c8, c9⟩ : Cl) _ := ae_6 (c := (⟨c1, c2, c3, c4, c5, c6, c7, c8, c9⟩ : Cl)) (by with_reducible assumption) (by with_reducible assumption) (rmE_ok (c := (⟨c1, c2, c3, c4, c5, c6, c7, c8, c9⟩ : Cl)) hside.1 (rmE0_st (c := (⟨c1, c2, c3, c4, c5, c6, c7, c8, c9⟩ : Cl)) hside.1 (by with_reducible assumption) (by with_reducible assumption) (rmFl_ok (f := c7) (by with_reducible assumption) (by with_reducible assumption) (by with_reducible assumption) (by first | exact .inl (by with_reducible assumption) | exact .inr ⟨(by with_reducible assumption), (by with_reducible assumption)⟩)) (by with_reducible assumption) (by with_reducible assumption) (by first | exact .inl (by with_reducible assumption) | exact .inr (by with_reducible assumption))) (by with_reducible assumption)) (by with_reducible assumption) (by first | exact .inl (by with_reducible assumption) | exact .inr ⟨(by with_reducible assumption), (by with_reducible assumption), (lg_n (c := (⟨c1, c2, c3, c4, c5, c6, c7, c8, c9⟩ : Cl)) (by first | exact .inl (by with_reducible assumption) | exact .inr (by with_reducible assumption))), (gw_n (c := (⟨c1, c2, c3, c4, c5, c6, c7, c8, c9⟩ : Cl)) (rmE_ok (c := (⟨c1, c2, c3, c4, c5, c6, c7, c8, c9⟩ : Cl)) hside.1 (rmE0_st (c := (⟨c1, c2, c3, c4, c5, c6, c7, c8, c9⟩ : Cl)) hside.1 (by with_reducible assumption) (by with_reducible assumption) (rmFl_ok (f := c7) (by with_reducible assumption) (by with_reducible assumption) (by with_reducible assumption) (by first | exact .inl (by with_reducible assumption) | exact .inr ⟨(by with_reducible assumption), (by with_reducible assumption)⟩)) (by with_reducible assumption) (by with_reducible assumption) (by first | exact .inl (by with_reducible assumption) | exact .inr (by with_reducible assumption))) (by with_reducible assumption)) (by first | exact .inl (by with_reducible assumption) | exact .inr (by with_reducible assumption))), (by with_reducible assumption)⟩) (by with_reducible assumption); refine IsX.sameM rfl (fun x => ?_) hc.er; simp only [hc.n, errA, noAt]; done) | (obtain ⟨k1, k2⟩ := (aw_go (c := (⟨c1, c2, c3, c4, c5, c6, c7, c8, c9⟩ : Cl)) (by with_reducible assumption) (by with_reducible assumption) (rmE_ok (c := (⟨c1, c2, c3, c4, c5, c6, c7, c8, c9⟩ : Cl)) hside.1 (rmE0_st (c := (⟨c1, c2, c3, c4, c5, c6, c7, c8, c9⟩ : Cl)) hside.1 (by with_reducible assumption) (by with_reducible assumption) (rmFl_ok (f := c7) (by with_reducible assumption) (by with_reducible assumption) (by with_reducible assumption) (by first | exact .inl (by with_reducible assumption) | exact .inr ⟨(by with_reducible assumption), (by with_reducible assumption)⟩)) (by with_reducible assumption) (by with_reducible assumption) (by first | exact .inl (by with_reducible assumption) | exact .inr (by with_reducible assumption))) (by with_reducible assumption)) (by with_reducible assumption) (by first | exact .inl (by with_reducible assumption) | exact .inr ⟨(by with_reducible assumption), (by with_reducible assumption), (lg_n (c := (⟨c1, c2, c3, c4, c5, c6, c7, c8, c9⟩ : Cl)) (by first | exact .inl (by with_reducible assumption) | exact .inr (by with_reducible assumption))), (gw_n (c := (⟨c1, c2, c3, c4, c5, c6, c7, c8, c9⟩ : Cl)) (rmE_ok (c := (⟨c1, c2, c3, c4, c5, c6, c7, c8, c9⟩ : Cl)) hside.1 (rmE0_st (c := (⟨c1, c2, c3, c4, c5, c6, c7, c8, c9⟩ : Cl)) hside.1 (by with_reducible assumption) (by with_reducible assumption) (rmFl_ok (f := c7) (by with_reducible assumption) (by with_reducible assumption) (by with_reducible assumption) (by first | exact .inl (by with_reducible assumption) | exact .inr ⟨(by with_reducible assumption), (by with_reducible assumption)⟩)) (by with_reducible assumption) (by with_reducible assumption) (by first | exact .inl (by with_reducible assumption) | exact .inr (by with_reducible assumption))) (by with_reducible assumption)) (by first | exact .inl (by with_reducible assumption) | exact .inr (by with_reducible assumption))), (by with_reducible assumption)⟩) (by with_reducible assumption)).2; first | (have hc := rk_no k1 (by with_reducible assumption); refine IsX.sameM rfl (fun x => ?_) hc.2; simp only [hc.1, errA, noAt]; done) | (have hc := rk_yes k1 k2 (by with_reducible assumption); refine IsX.newM rfl rfl (fun x => ?_) hc.2.1 hc.2.2; simp only [hc.1, okA, noAt]; done))))
  all_goals trace_state
def e_rremap {κ : Kp} (hκ : κ = kid) : ESpec Try.prog := fnES [.list, .flat] b_rremap F_rremap hκ fun avs p r hF hp => by
  unfold F_rremap at hF
  split at hF
  case h_2 => cases hF
  rename_i l xl c1 c2 c3 c4 c5 c6 c7 c8 c9
  simp only [kid, Option.some.injEq, Prod.mk.injEq] at hF
  obtain ⟨rfl, rfl⟩ := hF
  refine ⟨fun x y h => by simp [SV.den, SV.den0, h], fun vs w hR => ?_⟩
  obtain ⟨il, Al, cl, vs0, rfl, rfl, hl, hR⟩ := hR
  obtain ⟨vs1, rfl, hR⟩ := hR
  have hR' : vs1 = [] := hR
  subst hR'
  exact (k_rremap l c1 c2 c3 c4 c5 c6 c7 c8 c9 Al cl hp w hl).mono fun e w' ⟨v, H', h1, h2, h3⟩ => ⟨v, H', h1, h2.swap rfl, h3⟩
end Go.Proofs.Ytbcicjmepojlnaa.Eng
/- Contracts of functions (printed by genx.py of this work): what each hands back; condition: as its 'hside' says. -/
namespace Go.Proofs.Ytbcicjmepojlnaa.Eng
open Go Go.RowKit
set_option linter.unusedVariables false
set_option linter.unusedSimpArgs false
theorem b_awake12 : Bodied Try.prog 85 := bodied Try.func85 rfl (by decide)
def F_awake12 : FunX := fun κ avs => match avs with
  | [] => some (κ _ (True), (.val (.c (.v (.bool true)))))
  | _ => none
set_option maxRecDepth 100000 in
set_option maxHeartbeats 4000000 in
theorem k_awake12 (hside : True) (w : World) :
    Calls Try.prog 85 #[] w fun e w' => ∃ v H', e = .returned v.den ∧ IsX (.val (.c (.v (.bool true)))) v H' ∧ HSat w (fun _ => False) H' w' := by
  obtain ⟨κ, hκ⟩ : ∃ κ : Kp, κ = kid := ⟨_, rfl⟩
  have hH : HSat w (fun _ => False) (heapOf [(nilId, .rd none 1 0 [])]) w := by
    subst hκ
    refine HSat.reads fun p hp => ?_
    simp only [List.mem_cons, List.not_mem_nil, or_false] at hp
    rcases hp with rfl
    · exact ⟨_, _, _, _, rfl, nil_holds w⟩
  refine (callsP (n := 30) FTok [e_remap hκ] mixed [] Try.func85 rfl (by kernel_rfl) #[] [] _ w rfl [.tmp 0] rfl (by simp) (by subst hκ; simp [SV.den, C.den, kid]) hH (fun v H' => IsX (.val (.c (.v (.bool true)))) v H') hκ ?_).mono ?_
  rotate_left
  · subst hκ; intro e w' h; exact h
  intro P' hP'
  cbv
  repeat' (first | refine And.intro ?_ ?_ | (intro _; cbv) | (refine tst_mk (fun h => ?_) (fun h => ?_) <;> cbv) | (refine LookX.nil ?_; cbv) | (refine LookX.auto hκ ?_; cbv) | (refine LookX.mk' (x := [(⟨65536, 69632, 1, false, 0, 0⟩ : Ar)]) (by subst hκ; rfl) ?_; cbv) | (refine LookR.mk' (x := .v (.int .i64 73728)) (by subst hκ; kernel_rfl) ?_; cbv))
  all_goals (subst hκ; delta kid at *)
  all_goals (try (show Side _; exact ⟨⟨rfl, rfl, .inl rfl⟩⟩))
  all_goals (try (show Side _; refine ⟨?_⟩; decide +kernel))
  all_goals (try (show IsX _ _ _; refine IsX.bool_ ?_; decide +kernel))
  all_goals (first | exact absurd h (by decide +kernel) | trace_state)
def e_awake12 {κ : Kp} (hκ : κ = kid) : ESpec Try.prog := fnES [] b_awake12 F_awake12 hκ fun avs p r hF hp => by
  unfold F_awake12 at hF
  split at hF
  case h_2 => cases hF
  simp only [kid, Option.some.injEq, Prod.mk.injEq] at hF
  obtain ⟨rfl, rfl⟩ := hF
  refine ⟨trivial, fun vs w hR => ?_⟩
  have hR' : vs = [] := hR
  subst hR'
  exact k_awake12 hp w
set_option maxRecDepth 100000 in
set_option maxHeartbeats 4000000 in
theorem k_remapDoes (l : List Ar) (c1 : Int) (c2 : Int) (c3 : Int) (c4 : Int) (c5 : Int) (c6 : Int) (c7 : Int) (c8 : Int) (c9 : Int) (Al : Option Addr) (cl : Nat) (kl : l.length ≤ cl) (hside : In64 (⟨c1, c2, c3, c4, c5, c6, c7, c8, c9⟩ : Cl).a ∧ In64 (⟨c1, c2, c3, c4, c5, c6, c7, c8, c9⟩ : Cl).to ∧ In64 (⟨c1, c2, c3, c4, c5, c6, c7, c8, c9⟩ : Cl).f) (w : World) (hl : (Ent.rd Al 6 l.length (encL l)).holds w) :
    Calls Try.prog 35 #[.slice Al l.length cl, (SV.agg [.v (.int .i64 c1), .v (.int .i64 c2), .v (.int .i64 c3), .v (.int .i64 c4), .v (.int .i64 c5), .v (.int .i64 c6), .v (.int .i64 c7), .v (.int .i64 c8), .v (.int .i64 c9)]).den] w fun e w' => ∃ v H', e = .returned v.den ∧ IsX (.val (.c (.v (.bool true)))) v H' ∧ HSat w (fun _ => False) H' w' := by
  obtain ⟨κ, hκ⟩ : ∃ κ : Kp, κ = kid := ⟨_, rfl⟩
  have hH : HSat w (fun _ => False) (heapOf [(nilId, .rd none 1 0 []), (200000, .rd Al 6 (κ _ l.length) (κ _ (encL l)))]) w := by
    subst hκ
    refine HSat.reads fun p hp => ?_
    simp only [List.mem_cons, List.not_mem_nil, or_false] at hp
    rcases hp with rfl | rfl
    · exact ⟨_, _, _, _, rfl, nil_holds w⟩
    · exact ⟨_, _, _, _, rfl, hl⟩
  refine (callsP (n := 40) FTok [e_awake12 hκ, e_some hκ, e_remap hκ, e_rremap hκ, e_rsame hκ] mixed [] Try.func35 rfl (by kernel_rfl) #[.slice Al l.length cl, (SV.agg [.v (.int .i64 c1), .v (.int .i64 c2), .v (.int .i64 c3), .v (.int .i64 c4), .v (.int .i64 c5), .v (.int .i64 c6), .v (.int .i64 c7), .v (.int .i64 c8), .v (.int .i64 c9)]).den] [(0, .c (.sl 200000 Al (κ _ l.length) cl)), (1, .agg [.v (.int .i64 c1), .v (.int .i64 c2), .v (.int .i64 c3), .v (.int .i64 c4), .v (.int .i64 c5), .v (.int .i64 c6), .v (.int .i64 c7), .v (.int .i64 c8), .v (.int .i64 c9)])] _ w rfl [.tmp 4] rfl (by simp) (by subst hκ; simp [SV.den, C.den, kid]) hH (fun v H' => IsX (.val (.c (.v (.bool true)))) v H') hκ ?_).mono ?_
  rotate_left
  · subst hκ; intro e w' h; exact h
  intro P' hP'
  cbv
  repeat' (first | refine And.intro ?_ ?_ | (intro _; cbv) | (refine tst_mk (fun h => ?_) (fun h => ?_) <;> cbv) | (refine LookX.nil ?_; cbv) | (refine LookX.auto hκ ?_; cbv))
  all_goals (try (show Side _; refine ⟨?_⟩; subst hκ; delta kid at *; first | exact rfl | exact trivial | exact ⟨rfl, rfl, .inl rfl⟩ | exact ⟨rfl, rfl, .inl rfl, kl⟩ | exact ⟨rfl, rfl, .inl rfl, encL_ok _⟩ | ((try dsimp only at *); have z1 := madeL_le l; have z2 := someL_le l; (try simp only [maxLen]); have q0 : ¬ (30 : Int) < (l.length : Int) := of_decide_eq_false (by assumption); (try simp only [setTo_len, noS_len, List.length_append, List.length_cons, List.length_nil, List.length_map, and_self, true_or, or_true, eq_self, true_and, and_true, Nat.zero_add, Nat.add_zero]); (first | done | omega); done)))
  all_goals (clear hH; subst hκ; delta kid at *; (try dsimp only at *))
  all_goals (try (exact ⟨trivial⟩))
  all_goals (try (show IsX _ _ _; exact IsX.val_ rfl))
  all_goals (try (exact ⟨by decide⟩))
  all_goals (try (show Side _; exact ⟨some_may l, hside⟩))
  all_goals (try (show Side _; refine ⟨?_⟩; first | (simp only [rem_l1, rem_l2, rem_l3]; done) | exact rem_l4 _ (by with_reducible assumption)))
  all_goals (show IsX _ _ _; refine IsX.bool_ ?_)
  all_goals (first | (have e := rem_self (l := someL l) (by with_reducible assumption); rw [e]; exact sameL_self _) | exact sameL_self _ | (exfalso; rw [eqN_cells] at h; cases h; done))
set_option maxRecDepth 100000 in
set_option maxHeartbeats 4000000 in
theorem k_remapWrong (l : List Ar) (c1 : Int) (c2 : Int) (c3 : Int) (c4 : Int) (c5 : Int) (c6 : Int) (c7 : Int) (c8 : Int) (c9 : Int) (Al : Option Addr) (cl : Nat) (kl : l.length ≤ cl) (hside : True) (w : World) (hl : (Ent.rd Al 6 l.length (encL l)).holds w) :
    Calls Try.prog 36 #[.slice Al l.length cl, (SV.agg [.v (.int .i64 c1), .v (.int .i64 c2), .v (.int .i64 c3), .v (.int .i64 c4), .v (.int .i64 c5), .v (.int .i64 c6), .v (.int .i64 c7), .v (.int .i64 c8), .v (.int .i64 c9)]).den] w fun e w' => ∃ v H', e = .returned v.den ∧ IsX (.val (.c (.v (.bool true)))) v H' ∧ HSat w (fun _ => False) H' w' := by
  obtain ⟨κ, hκ⟩ : ∃ κ : Kp, κ = kid := ⟨_, rfl⟩
  have hH : HSat w (fun _ => False) (heapOf [(nilId, .rd none 1 0 []), (200000, .rd Al 6 (κ _ l.length) (κ _ (encL l)))]) w := by
    subst hκ
    refine HSat.reads fun p hp => ?_
    simp only [List.mem_cons, List.not_mem_nil, or_false] at hp
    rcases hp with rfl | rfl
    · exact ⟨_, _, _, _, rfl, nil_holds w⟩
    · exact ⟨_, _, _, _, rfl, hl⟩
  refine (callsP (n := 33) FTok [e_awake12 hκ, e_rmay hκ, e_remap hκ, e_rsame hκ] mixed [] Try.func36 rfl (by kernel_rfl) #[.slice Al l.length cl, (SV.agg [.v (.int .i64 c1), .v (.int .i64 c2), .v (.int .i64 c3), .v (.int .i64 c4), .v (.int .i64 c5), .v (.int .i64 c6), .v (.int .i64 c7), .v (.int .i64 c8), .v (.int .i64 c9)]).den] [(0, .c (.sl 200000 Al (κ _ l.length) cl)), (1, .agg [.v (.int .i64 c1), .v (.int .i64 c2), .v (.int .i64 c3), .v (.int .i64 c4), .v (.int .i64 c5), .v (.int .i64 c6), .v (.int .i64 c7), .v (.int .i64 c8), .v (.int .i64 c9)])] _ w rfl [.tmp 4] rfl (by simp) (by subst hκ; simp [SV.den, C.den, kid]) hH (fun v H' => IsX (.val (.c (.v (.bool true)))) v H') hκ ?_).mono ?_
  rotate_left
  · subst hκ; intro e w' h; exact h
  intro P' hP'
  cbv
  repeat' (first | refine And.intro ?_ ?_ | (intro _; cbv) | (refine tst_mk (fun h => ?_) (fun h => ?_) <;> cbv) | (refine LookX.nil ?_; cbv) | (refine LookX.auto hκ ?_; cbv))
  all_goals (try (show Side _; refine ⟨?_⟩; subst hκ; delta kid at *; first | exact rfl | exact trivial | exact ⟨rfl, rfl, .inl rfl⟩ | exact ⟨rfl, rfl, .inl rfl, kl⟩ | exact ⟨rfl, rfl, .inl rfl, encL_ok _⟩ | ((try dsimp only at *); have z1 := madeL_le l; have z2 := someL_le l; (try simp only [maxLen]); have q0 : ¬ (40 : Int) < (l.length : Int) := of_decide_eq_false (by assumption); (try simp only [setTo_len, noS_len, List.length_append, List.length_cons, List.length_nil, List.length_map, and_self, true_or, or_true, eq_self, true_and, and_true, Nat.zero_add, Nat.add_zero]); (first | done | omega); done)))
  all_goals (clear hH; subst hκ; delta kid at *; (try dsimp only at *))
  all_goals (try (exact ⟨trivial⟩))
  all_goals (try (show IsX _ _ _; exact IsX.val_ rfl))
  all_goals (try (exact ⟨by decide⟩))
  all_goals (try (show Side _; refine ⟨?_⟩; first | (simp only [rem_l1, rem_l2, rem_l3]; done) | exact rem_l4 _ (by with_reducible assumption)))
  all_goals (show IsX _ _ _; refine IsX.bool_ ?_)
  all_goals (obtain ⟨e1, e2⟩ := rem_no (l := l) (by with_reducible assumption) (⟨c1, c2, c3, c4, c5, c6, c7, c8, c9⟩ : Cl))
  all_goals ((simp only [e1, e2, errA, noAt] at *) <;> (first | done | rfl | exact sameL_self _ | (exfalso; rw [sameL_self] at h; cases h; done) | (exfalso; revert h; decide) | (exfalso; simp_all; done) | (simp_all; done)))
set_option maxRecDepth 100000 in
set_option maxHeartbeats 4000000 in
theorem k_remapStays (l : List Ar) (ka : Int) (Al : Option Addr) (cl : Nat) (kl : l.length ≤ cl) (hside : U8 ka) (w : World) (hl : (Ent.rd Al 6 l.length (encL l)).holds w) :
    Calls Try.prog 33 #[.slice Al l.length cl, (SV.c (.v (.int .u8 ka))).den] w fun e w' => ∃ v H', e = .returned v.den ∧ IsX (.val (.c (.v (.bool true)))) v H' ∧ HSat w (fun _ => False) H' w' := by
  obtain ⟨κ, hκ⟩ : ∃ κ : Kp, κ = kid := ⟨_, rfl⟩
  have hH : HSat w (fun _ => False) (heapOf [(nilId, .rd none 1 0 []), (200000, .rd Al 6 (κ _ l.length) (κ _ (encL l)))]) w := by
    subst hκ
    refine HSat.reads fun p hp => ?_
    simp only [List.mem_cons, List.not_mem_nil, or_false] at hp
    rcases hp with rfl | rfl
    · exact ⟨_, _, _, _, rfl, nil_holds w⟩
    · exact ⟨_, _, _, _, rfl, hl⟩
  refine (callsP (n := 58) FTok [e_awake12 hκ, e_some hκ, e_remap hκ, e_rsame hκ] mixed [] Try.func33 rfl (by kernel_rfl) #[.slice Al l.length cl, (SV.c (.v (.int .u8 ka))).den] [(0, .c (.sl 200000 Al (κ _ l.length) cl)), (1, .c (.v (.int .u8 ka)))] _ w rfl [.tmp 4] rfl (by simp) (by subst hκ; simp [SV.den, C.den, kid]) hH (fun v H' => IsX (.val (.c (.v (.bool true)))) v H') hκ ?_).mono ?_
  rotate_left
  · subst hκ; intro e w' h; exact h
  intro P' hP'
  cbv
  repeat' (first | refine And.intro ?_ ?_ | (intro _; cbv) | (refine tst_mk (fun h => ?_) (fun h => ?_) <;> cbv) | (refine LookX.nil ?_; cbv) | (refine LookX.auto hκ ?_; cbv) | (refine LookN.mk' (x := [.v (.int .i64 (κ _ (nthA (someL l) (ka.toNat % (someL l).length)).s)), .v (.int .i64 (κ _ (nthA (someL l) (ka.toNat % (someL l).length)).e)), .v (.int .i64 (κ _ (nthA (someL l) (ka.toNat % (someL l).length)).p)), .v (.bool (κ _ (nthA (someL l) (ka.toNat % (someL l).length)).sh)), .v (.int .i64 (κ _ (nthA (someL l) (ka.toNat % (someL l).length)).b)), .v (.int .i64 (κ _ (nthA (someL l) (ka.toNat % (someL l).length)).o))]) (by subst hκ; delta kid at *; exact pick_take hside (by with_reducible assumption)) ?_; cbv))
  all_goals (try (show Side _; refine ⟨?_⟩; subst hκ; delta kid at *; first | exact rfl | exact trivial | exact ⟨rfl, rfl, .inl rfl⟩ | exact ⟨rfl, rfl, .inl rfl, kl⟩ | exact ⟨rfl, rfl, .inl rfl, encL_ok _⟩ | exact pick_in hside (by with_reducible assumption) | ((try dsimp only at *); have z1 := madeL_le l; have z2 := someL_le l; (try simp only [maxLen]); have q0 : ¬ (30 : Int) < (l.length : Int) := of_decide_eq_false (by assumption); (try simp only [setTo_len, noS_len, List.length_append, List.length_cons, List.length_nil, List.length_map, and_self, true_or, or_true, eq_self, true_and, and_true, Nat.zero_add, Nat.add_zero]); (first | done | omega); done)))
  all_goals (clear hH; subst hκ; delta kid at *; (try dsimp only at *))
  all_goals (try (exact ⟨trivial⟩))
  all_goals (try (show IsX _ _ _; exact IsX.val_ rfl))
  all_goals (try (exact ⟨by decide⟩))
  all_goals (try (exact ⟨beq_no (by with_reducible assumption)⟩))
  all_goals (try (show Side _; refine ⟨?_⟩; first | (simp only [rem_l1, rem_l2, rem_l3]; done) | exact rem_l4 _ (by with_reducible assumption)))
  all_goals (have hmem := pick_mem hside (by with_reducible assumption))
  all_goals (have hw := len_w (fo.1 ((some_rt l).1 _ hmem)))
  all_goals (obtain ⟨e1, e2⟩ := stays_law (some_may l) hmem (c := (⟨0, (nthA (someL l) (ka.toNat % (someL l).length)).s, IntKind.i64.wrap ((nthA (someL l) (ka.toNat % (someL l).length)).e - (nthA (someL l) (ka.toNat % (someL l).length)).s), IntKind.i64.wrap ((nthA (someL l) (ka.toNat % (someL l).length)).e - (nthA (someL l) (ka.toNat % (someL l).length)).s), 0, 0, 0, 0, 0⟩ : Cl)) rfl hw hw rfl)
  all_goals (clear hw)
  all_goals (show IsX _ _ _; refine IsX.bool_ ?_)
  all_goals ((simp only [e1, e2, okA, noAt] at *) <;> (first | done | rfl | exact sameL_self _ | (exfalso; rw [sameL_self] at h; cases h; done) | (exfalso; revert h; decide) | (exfalso; simp_all; done) | (simp_all; done)))
end Go.Proofs.Ytbcicjmepojlnaa.Eng
/- The break step by step: what a round comes to; no condition but those typed. -/
namespace Go.Proofs.Ytbcicjmepojlnaa.Eng
open Go Go.RowKit
set_option autoImplicit false
set_option linter.unusedSimpArgs false
set_option linter.unusedVariables false
def encW (l : List Int) : List C := l.flatMap fun n => [.v (.int .i64 n)]
def nthW (l : List Int) (i : Nat) : Int := l.getD i 0
theorem nthW_get {l : List Int} {i : Nat} (h : i < l.length) : l[i]? = some (nthW l i) := by
  unfold nthW
  rw [List.getD_eq_getElem?_getD, List.getElem?_eq_getElem h]
  rfl
theorem wa_v {l : List Int} {i : Nat} (h : i < l.length) : (encW l)[((i : Nat) : Int).toNat * 1]? = some (.v (.int .i64 (nthW l i))) := by
  rw [Int.toNat_natCast]
  exact enc_get (f := fun n : Int => [C.v (.int .i64 n)]) (z := 1) (fun _ => rfl) l i _ 0 (nthW_get h) (by decide)
theorem wa_ix {l : List Int} {i : Nat} (h : i < l.length) : 0 < 1 ∧ 0 ≤ ((i : Nat) : Int) ∧ ((i : Nat) : Int) < (l.length : Int) := by omega
def stN (m w : Int) : Int := if brkR w = true then w else m
theorem st_ok {m w : Int} (hm : BrOk m) : BrOk (stN m w) := by
  unfold stN
  split
  · rename_i h
    exact (br_iff w).1 h
  · exact hm
theorem step_may {m : Int} (hm : BrOk m) : mayS (stepP m) = true := by
  obtain ⟨s1, s2⟩ := step_rt hm
  exact rt_mayS s1 (by omega)
theorem st_all {m : Int} (hm : BrOk m) (w : Int) : brkL (stepP m) m w = stepP (stN m w) ∧ brkV (stepP m) m w = stN m w ∧ ((brkN (stepP m) m w).er == 0) = ((w == 0) || brkR w) := by
  have hmay := step_may hm
  have hb := (br_iff m).2 hm
  cases hw : (w == 0) with
  | true =>
    obtain ⟨_, k1, k2, k3, _⟩ := bk_0 hmay hb hw
    have hn : brkR w = false := by rw [beq_yes hw]; decide
    unfold stN
    rw [hn, if_neg (by simp), k1, k2, k3]
    exact ⟨rfl, rfl, rfl⟩
  | false =>
    cases hr : brkR w with
    | true =>
      obtain ⟨e1, e2⟩ := step_move hm ((br_iff w).1 hr)
      obtain ⟨g1, g2, g3⟩ := bk_go hmay hb hw e1
      have hd : decide ((24 : Int) < ((stepP w).length : Int)) = false := by
        have := (step_rt ((br_iff w).1 hr)).2
        rw [decide_eq_false_iff_not]
        omega
      rw [e2] at g1 g2 g3
      rw [(kept_yes (was := stepP m) hd).2] at g1 g3
      rw [(kept_yes (v := 0) (was := stepP m) hd).1] at g2
      unfold stN
      rw [hr, if_pos rfl, g1, g2, g3]
      exact ⟨rfl, rfl, rfl⟩
    | false =>
      obtain ⟨k1, k2, k3, _⟩ := bk_bad hmay hb (bk_4 hmay hb hw hr) (by decide)
      unfold stN
      rw [hr, if_neg (by simp), k1, k2, k3]
      exact ⟨rfl, rfl, rfl⟩
abbrev stG (v : Int) : Int := IntKind.i64.wrap (IntKind.i64.wrap (Int.tdiv (IntKind.i64.wrap (v + 4095)) 4096) - 16)
theorem st_pages {v : Int} (h : BrOk v) : stG v = endB v - 16 ∧ 16 ≤ endB v ∧ endB v ≤ 80 ∧ IntKind.i64.wrap (4096 * IntKind.i64.wrap (16 + stG v)) = 4096 * endB v := by
  obtain ⟨u1, u2, u3⟩ := up_end h
  have h1 := h.lo
  have h2 := h.hi
  have e0 : IntKind.i64.wrap (v + 4095) = v + 4095 := w64_id (by unfold In64; omega)
  have e1 : IntKind.i64.wrap (Int.tdiv (v + 4095) 4096) = endB v := by rw [Int.tdiv_eq_ediv_of_nonneg (by omega)]; exact w64_id (by unfold endB at *; unfold In64; omega)
  have e2 : IntKind.i64.wrap (endB v - 16) = endB v - 16 := w64_id (by unfold In64; omega)
  have e3 : stG v = endB v - 16 := by unfold stG; rw [e0, e1, e2]
  have e4 : IntKind.i64.wrap (16 + (endB v - 16)) = endB v := (w64_id (by unfold In64; omega)).trans (by omega)
  have e5 : IntKind.i64.wrap (4096 * endB v) = 4096 * endB v := w64_id (by unfold In64; omega)
  rw [e3, e4, e5]
  exact ⟨rfl, u2, u3, rfl⟩
theorem st_0 {v : Int} (h : BrOk v) (hp : (stG v == 0) = true) : stepP v = [] := by
  obtain ⟨k1, k2, k3, k4⟩ := st_pages h
  have hp := beq_yes hp
  unfold stepP
  rw [if_pos (by omega)]
theorem st_1 {v : Int} (h : BrOk v) (hp : (stG v == 0) = false) : stepP v = [⟨65536, IntKind.i64.wrap (4096 * IntKind.i64.wrap (16 + stG v)), 3, false, 0, 0⟩] ∧ decide (0 < stG v) = true := by
  obtain ⟨k1, k2, k3, k4⟩ := st_pages h
  have hp := beq_no hp
  rw [k4]
  unfold stepP
  rw [if_neg (by omega)]
  exact ⟨rfl, by rw [decide_eq_true_eq]; omega⟩
section
variable {m w : Int} (hm : BrOk m)
include hm
theorem sf_1 (h : (w != 0) = true) : (!(brkR w == ((brkN (stepP m) m w).er == 0))) = false := by
  obtain ⟨e1, e2, e3⟩ := st_all hm w
  have hw : (w == 0) = false := by unfold bne at h; rw [Bool.not_eq_true'] at h; exact h
  rw [e3, hw, Bool.false_or]
  simp
theorem sf_2 (h : brkR w = true) : (brkV (stepP m) m w != w) = false := by
  obtain ⟨e1, e2, e3⟩ := st_all hm w
  rw [e2]
  unfold stN
  rw [if_pos h]
  simp
theorem sf_3 (h : brkR w = false) : (brkV (stepP m) m w != m) = false := by
  obtain ⟨e1, e2, e3⟩ := st_all hm w
  rw [e2]
  unfold stN
  rw [if_neg (by rw [h]; simp)]
  simp
theorem sf_4 (h : (stG (brkV (stepP m) m w) == 0) = true) : decide ((0 : Int) < ((brkL (stepP m) m w).length : Int)) = false := by
  obtain ⟨e1, e2, e3⟩ := st_all hm w
  rw [e2] at h
  rw [e1, st_0 (st_ok hm) h]
  rfl
theorem sf_0 (h : decide (0 < stG (brkV (stepP m) m w)) = true) : (stG (brkV (stepP m) m w) == 0) = false := by
  have h := of_decide_eq_true h
  rw [beq_eq_false_iff_ne]
  omega
theorem sf_5 (h : decide (0 < stG (brkV (stepP m) m w)) = true) : (((brkL (stepP m) m w).length : Int) != 1) = false := by
  have h2 := sf_0 hm h
  obtain ⟨e1, e2, e3⟩ := st_all hm w
  rw [e2] at h2
  rw [e1, (st_1 (st_ok hm) h2).1]
  rfl
theorem sf_6 (h : decide (0 < stG (brkV (stepP m) m w)) = true) : (!((nthA (brkL (stepP m) m w) 0).s == 65536 && ((nthA (brkL (stepP m) m w) 0).e == IntKind.i64.wrap (4096 * IntKind.i64.wrap (16 + stG (brkV (stepP m) m w))) && ((nthA (brkL (stepP m) m w) 0).p == 3 && ((nthA (brkL (stepP m) m w) 0).sh == false && ((nthA (brkL (stepP m) m w) 0).b == 0 && ((nthA (brkL (stepP m) m w) 0).o == 0 && true))))))) = false := by
  have h2 := sf_0 hm h
  obtain ⟨e1, e2, e3⟩ := st_all hm w
  rw [e2] at h2 ⊢
  have h3 := (st_1 (st_ok hm) h2).1
  generalize IntKind.i64.wrap (4096 * IntKind.i64.wrap (16 + stG (stN m w))) = E at h3 ⊢
  rw [e1, h3]
  show (!((65536 : Int) == 65536 && (E == E && ((3 : Int) == 3 && (false == false && ((0 : Int) == 0 && ((0 : Int) == 0 && true))))))) = false
  simp
theorem sf_7 (h : (stG (brkV (stepP m) m w) == 0) = true) (h2 : decide (0 < stG (brkV (stepP m) m w)) = true) : False := by
  have h3 := sf_0 hm h2
  rw [h] at h3
  cases h3
end
theorem st_take {L : List Ar} (h : ((L.length : Int) != 1) = false) : takeN (encL L) (((0 : Int)).toNat * 6) 6 = some [.v (.int .i64 (nthA L 0).s), .v (.int .i64 (nthA L 0).e), .v (.int .i64 (nthA L 0).p), .v (.bool (nthA L 0).sh), .v (.int .i64 (nthA L 0).b), .v (.int .i64 (nthA L 0).o)] := by
  have h := bne_no h
  exact la_take (i := 0) (by omega)
theorem st_ix {L : List Ar} (h : ((L.length : Int) != 1) = false) : 0 < 6 ∧ 0 ≤ (0 : Int) ∧ (0 : Int) < (L.length : Int) := by
  have h := bne_no h
  omega
end Go.Proofs.Ytbcicjmepojlnaa.Eng
/- Contracts of functions (printed by genx.py of this work): what each hands back; condition: as its 'hside' says. -/
namespace Go.Proofs.Ytbcicjmepojlnaa.Eng
open Go Go.RowKit
set_option linter.unusedVariables false
set_option linter.unusedSimpArgs false
theorem b_bright : Bodied Try.prog 72 := bodied Try.func72 rfl (by decide)
def F_bright : FunX := fun κ avs => match avs with
  | [.val (.c (.v (.int .i64 n)))] => some (κ _ (True), (.val (.c (.v (.bool (κ _ (brkR n)))))))
  | _ => none
set_option maxRecDepth 100000 in
set_option maxHeartbeats 4000000 in
theorem k_bright (n : Int) (hside : True) (w : World) :
    Calls Try.prog 72 #[(SV.c (.v (.int .i64 n))).den] w fun e w' => ∃ v H', e = .returned v.den ∧ IsX (.val (.c (.v (.bool (brkR n))))) v H' ∧ HSat w (fun _ => False) H' w' := by
  obtain ⟨κ, hκ⟩ : ∃ κ : Kp, κ = kid := ⟨_, rfl⟩
  have hH : HSat w (fun _ => False) (heapOf [(nilId, .rd none 1 0 [])]) w := by
    subst hκ
    refine HSat.reads fun p hp => ?_
    simp only [List.mem_cons, List.not_mem_nil, or_false] at hp
    rcases hp with rfl
    · exact ⟨_, _, _, _, rfl, nil_holds w⟩
  refine (callsP (n := 9) FTok [] mixed [] Try.func72 rfl (by kernel_rfl) #[(SV.c (.v (.int .i64 n))).den] [(0, .c (.v (.int .i64 n)))] _ w rfl [.tmp 2] rfl (by simp) (by subst hκ; simp [SV.den, C.den, kid]) hH (fun v H' => IsX (.val (.c (.v (.bool (κ _ (brkR n)))))) v H') hκ ?_).mono ?_
  rotate_left
  · subst hκ; intro e w' h; exact h
  intro P' hP'
  cbv
  repeat' (first | refine And.intro ?_ ?_ | (intro _; cbv) | (refine tst_mk (fun h => ?_) (fun h => ?_) <;> cbv) | (refine LookX.nil ?_; cbv) | (refine LookX.auto hκ ?_; cbv))
  all_goals (try (show Side _; refine ⟨?_⟩; subst hκ; delta kid at *; first | exact rfl | exact trivial | exact ⟨rfl, rfl, .inl rfl⟩ | ((try dsimp only at *); (try simp only [setTo_len, noS_len, List.length_append, List.length_cons, List.length_nil, List.length_map, and_self, true_or, or_true, eq_self, true_and, and_true, Nat.zero_add, Nat.add_zero]); (first | done | omega); done)))
  all_goals (clear hH; subst hκ; delta kid at *; (try dsimp only at *))
  all_goals (try (exact ⟨trivial⟩))
  all_goals (try (exact ⟨by decide⟩))
  all_goals (show IsX _ _ _; refine IsX.val_ ?_; simp only [SV.den, SV.den0, C.den, List.map_cons, List.map_nil, brkR, GT.gt, GE.ge]; (try simp only [*, Bool.or_true, Bool.true_or, Bool.or_false, Bool.false_or, Bool.and_true, Bool.true_and, Bool.and_false, Bool.false_and, Bool.not_true, Bool.not_false, if_true, if_false, Bool.false_eq_true]); (first | done | rfl | (exfalso; simp_all; done) | skip))
def e_bright {κ : Kp} (hκ : κ = kid) : ESpec Try.prog := fnES [.flat] b_bright F_bright hκ fun avs p r hF hp => by
  unfold F_bright at hF
  split at hF
  case h_2 => cases hF
  rename_i n
  simp only [kid, Option.some.injEq, Prod.mk.injEq] at hF
  obtain ⟨rfl, rfl⟩ := hF
  refine ⟨trivial, fun vs w hR => ?_⟩
  obtain ⟨vs0, rfl, hR⟩ := hR
  have hR' : vs0 = [] := hR
  subst hR'
  exact k_bright n hp w
theorem b_bup : Bodied Try.prog 119 := bodied Try.func119 rfl (by decide)
def F_bup : FunX := fun κ avs => match avs with
  | [.val (.c (.v (.int .i64 n)))] => some (κ _ (True), (.val (.c (.v (.int .i64 (κ _ (upG n)))))))
  | _ => none
set_option maxRecDepth 100000 in
set_option maxHeartbeats 4000000 in
theorem k_bup (n : Int) (hside : True) (w : World) :
    Calls Try.prog 119 #[(SV.c (.v (.int .i64 n))).den] w fun e w' => ∃ v H', e = .returned v.den ∧ IsX (.val (.c (.v (.int .i64 (upG n))))) v H' ∧ HSat w (fun _ => False) H' w' := by
  obtain ⟨κ, hκ⟩ : ∃ κ : Kp, κ = kid := ⟨_, rfl⟩
  have hH : HSat w (fun _ => False) (heapOf [(nilId, .rd none 1 0 [])]) w := by
    subst hκ
    refine HSat.reads fun p hp => ?_
    simp only [List.mem_cons, List.not_mem_nil, or_false] at hp
    rcases hp with rfl
    · exact ⟨_, _, _, _, rfl, nil_holds w⟩
  refine (callsP (n := 8) FTok [] mixed [] Try.func119 rfl (by kernel_rfl) #[(SV.c (.v (.int .i64 n))).den] [(0, .c (.v (.int .i64 n)))] _ w rfl [.tmp 2] rfl (by simp) (by subst hκ; simp [SV.den, C.den, kid]) hH (fun v H' => IsX (.val (.c (.v (.int .i64 (κ _ (upG n)))))) v H') hκ ?_).mono ?_
  rotate_left
  · subst hκ; intro e w' h; exact h
  intro P' hP'
  cbv
  repeat' (first | refine And.intro ?_ ?_ | (intro _; cbv) | (refine tst_mk (fun h => ?_) (fun h => ?_) <;> cbv) | (refine LookX.nil ?_; cbv) | (refine LookX.auto hκ ?_; cbv))
  all_goals (try (show Side _; refine ⟨?_⟩; subst hκ; delta kid at *; first | exact rfl | exact trivial | exact ⟨rfl, rfl, .inl rfl⟩ | ((try dsimp only at *); (try simp only [setTo_len, noS_len, List.length_append, List.length_cons, List.length_nil, List.length_map, and_self, true_or, or_true, eq_self, true_and, and_true, Nat.zero_add, Nat.add_zero]); (first | done | omega); done)))
  all_goals (clear hH; subst hκ; delta kid at *; (try dsimp only at *))
  all_goals (try (exact ⟨trivial⟩))
  all_goals (try (exact ⟨by decide⟩))
  all_goals (show IsX _ _ _; refine IsX.val_ ?_; simp only [SV.den, SV.den0, C.den, List.map_cons, List.map_nil, upG, GT.gt, GE.ge]; (try simp only [*, Bool.or_true, Bool.true_or, Bool.or_false, Bool.false_or, Bool.and_true, Bool.true_and, Bool.and_false, Bool.false_and, Bool.not_true, Bool.not_false, if_true, if_false, Bool.false_eq_true]); (first | done | rfl | (exfalso; simp_all; done) | skip))
def e_bup {κ : Kp} (hκ : κ = kid) : ESpec Try.prog := fnES [.flat] b_bup F_bup hκ fun avs p r hF hp => by
  unfold F_bup at hF
  split at hF
  case h_2 => cases hF
  rename_i n
  simp only [kid, Option.some.injEq, Prod.mk.injEq] at hF
  obtain ⟨rfl, rfl⟩ := hF
  refine ⟨trivial, fun vs w hR => ?_⟩
  obtain ⟨vs0, rfl, hR⟩ := hR
  have hR' : vs0 = [] := hR
  subst hR'
  exact k_bup n hp w
theorem b_bwrong : Bodied Try.prog 115 := bodied Try.func115 rfl (by decide)
def F_bwrong : FunX := fun κ avs => match avs with
  | [.lst l xl, .val (.c (.v (.int .i64 m))), .val (.c (.v (.int .i64 q)))] => some (κ _ (l.length ≤ 300000), (.val (.c (.v (.int .i64 (κ _ (brkE l m q)))))))
  | _ => none
set_option maxRecDepth 100000 in
set_option maxHeartbeats 4000000 in
theorem k_bwrong (l : List Ar) (m : Int) (q : Int) (Al : Option Addr) (cl : Nat) (hside : l.length ≤ 300000) (w : World) (hl : (Ent.rd Al 6 l.length (encL l)).holds w) :
    Calls Try.prog 115 #[.slice Al l.length cl, (SV.c (.v (.int .i64 m))).den, (SV.c (.v (.int .i64 q))).den] w fun e w' => ∃ v H', e = .returned v.den ∧ IsX (.val (.c (.v (.int .i64 (brkE l m q))))) v H' ∧ HSat w (fun _ => False) H' w' := by
  obtain ⟨κ, hκ⟩ : ∃ κ : Kp, κ = kid := ⟨_, rfl⟩
  have hH : HSat w (fun _ => False) (heapOf [(nilId, .rd none 1 0 []), (200000, .rd Al 6 (κ _ l.length) (κ _ (encL l)))]) w := by
    subst hκ
    refine HSat.reads fun p hp => ?_
    simp only [List.mem_cons, List.not_mem_nil, or_false] at hp
    rcases hp with rfl | rfl
    · exact ⟨_, _, _, _, rfl, nil_holds w⟩
    · exact ⟨_, _, _, _, rfl, hl⟩
  refine (callsP (n := 46) FTok [e_right hκ, e_bright hκ, e_bup hκ, e_fits hκ] mixed [] Try.func115 rfl (by kernel_rfl) #[.slice Al l.length cl, (SV.c (.v (.int .i64 m))).den, (SV.c (.v (.int .i64 q))).den] [(0, .c (.sl 200000 Al (κ _ l.length) cl)), (1, .c (.v (.int .i64 m))), (2, .c (.v (.int .i64 q)))] _ w rfl [.tmp 6] rfl (by simp) (by subst hκ; simp [SV.den, C.den, kid]) hH (fun v H' => IsX (.val (.c (.v (.int .i64 (κ _ (brkE l m q)))))) v H') hκ ?_).mono ?_
  rotate_left
  · subst hκ; intro e w' h; exact h
  intro P' hP'
  cbv
  repeat' (first | refine And.intro ?_ ?_ | (intro _; cbv) | (refine tst_mk (fun h => ?_) (fun h => ?_) <;> cbv) | (refine LookX.nil ?_; cbv) | (refine LookX.auto hκ ?_; cbv))
  all_goals (try (show Side _; refine ⟨?_⟩; subst hκ; delta kid at *; first | exact rfl | exact trivial | exact ⟨rfl, rfl, .inl rfl⟩ | ((try dsimp only at *); (try simp only [setTo_len, noS_len, List.length_append, List.length_cons, List.length_nil, List.length_map, and_self, true_or, or_true, eq_self, true_and, and_true, Nat.zero_add, Nat.add_zero]); (first | done | omega); done)))
  all_goals (clear hH; subst hκ; delta kid at *; (try dsimp only at *))
  all_goals (try (exact ⟨trivial⟩))
  all_goals (try (exact ⟨by decide⟩))
  all_goals (try simp only [le24] at *)
  all_goals (show IsX _ _ _; refine IsX.val_ ?_; simp only [SV.den, SV.den0, C.den, List.map_cons, List.map_nil, brkE, mayS, GT.gt, GE.ge]; (try simp only [*, Bool.or_true, Bool.true_or, Bool.or_false, Bool.false_or, Bool.and_true, Bool.true_and, Bool.and_false, Bool.false_and, Bool.not_true, Bool.not_false, if_true, if_false, Bool.false_eq_true]); (first | done | rfl | (exfalso; simp_all; done) | skip))
def e_bwrong {κ : Kp} (hκ : κ = kid) : ESpec Try.prog := fnES [.list, .flat, .flat] b_bwrong F_bwrong hκ fun avs p r hF hp => by
  unfold F_bwrong at hF
  split at hF
  case h_2 => cases hF
  rename_i l xl m q
  simp only [kid, Option.some.injEq, Prod.mk.injEq] at hF
  obtain ⟨rfl, rfl⟩ := hF
  refine ⟨trivial, fun vs w hR => ?_⟩
  obtain ⟨il, Al, cl, vs0, rfl, rfl, hl, hR⟩ := hR
  obtain ⟨vs1, rfl, hR⟩ := hR
  obtain ⟨vs2, rfl, hR⟩ := hR
  have hR' : vs2 = [] := hR
  subst hR'
  exact k_bwrong l m q Al cl hp w hl
theorem b_bmoved : Bodied Try.prog 118 := bodied Try.func118 rfl (by decide)
def F_bmoved : FunX := fun κ avs => match avs with
  | [.lst l xl, .val (.c (.v (.int .i64 a))), .val (.c (.v (.int .i64 b)))] => some (κ _ (l.length ≤ 300000), (.alt ((κ _ (brkStay a b))) (xl) (fun x => .c x) ((κ _ (brkMv l a b))) (fun x => .c x)))
  | _ => none
set_option maxRecDepth 100000 in
set_option maxHeartbeats 4000000 in
theorem k_bmoved (l : List Ar) (a : Int) (b : Int) (Al : Option Addr) (cl : Nat) (hside : l.length ≤ 300000) (w : World) (hl : (Ent.rd Al 6 l.length (encL l)).holds w) :
    Calls Try.prog 118 #[.slice Al l.length cl, (SV.c (.v (.int .i64 a))).den, (SV.c (.v (.int .i64 b))).den] w fun e w' => ∃ v H', e = .returned v.den ∧ IsX (.alt ((brkStay a b)) (.sl 200000 Al l.length cl) (fun x => .c x) ((brkMv l a b)) (fun x => .c x)) v H' ∧ HSat w (fun _ => False) H' w' := by
  obtain ⟨κ, hκ⟩ : ∃ κ : Kp, κ = kid := ⟨_, rfl⟩
  have hH : HSat w (fun _ => False) (heapOf [(nilId, .rd none 1 0 []), (200000, .rd Al 6 (κ _ l.length) (κ _ (encL l)))]) w := by
    subst hκ
    refine HSat.reads fun p hp => ?_
    simp only [List.mem_cons, List.not_mem_nil, or_false] at hp
    rcases hp with rfl | rfl
    · exact ⟨_, _, _, _, rfl, nil_holds w⟩
    · exact ⟨_, _, _, _, rfl, hl⟩
  refine (callsP (n := 25) FTok [e_put hκ, e_cut hκ] mixed [] Try.func118 rfl (by kernel_rfl) #[.slice Al l.length cl, (SV.c (.v (.int .i64 a))).den, (SV.c (.v (.int .i64 b))).den] [(0, .c (.sl 200000 Al (κ _ l.length) cl)), (1, .c (.v (.int .i64 a))), (2, .c (.v (.int .i64 b)))] _ w rfl [.tmp 6] rfl (by simp) (by subst hκ; simp [SV.den, C.den, kid]) hH (fun v H' => IsX (.alt ((κ _ (brkStay a b))) (.sl 200000 Al (κ _ l.length) cl) (fun x => .c x) ((κ _ (brkMv l a b))) (fun x => .c x)) v H') hκ ?_).mono ?_
  rotate_left
  · subst hκ; intro e w' h; exact h
  intro P' hP'
  cbv
  repeat' (first | refine And.intro ?_ ?_ | (intro _; cbv) | (refine tst_mk (fun h => ?_) (fun h => ?_) <;> cbv) | (refine LookX.nil ?_; cbv) | (refine LookX.auto hκ ?_; cbv))
  all_goals (try (show Side _; refine ⟨?_⟩; subst hκ; delta kid at *; first | exact rfl | exact trivial | exact ⟨rfl, rfl, .inl rfl⟩ | ((try dsimp only at *); (try simp only [setTo_len, noS_len, List.length_append, List.length_cons, List.length_nil, List.length_map, and_self, true_or, or_true, eq_self, true_and, and_true, Nat.zero_add, Nat.add_zero]); (first | done | omega); done)))
  all_goals (clear hH; subst hκ; delta kid at *; (try dsimp only at *))
  · exact IsX.new_ (mv_1 (l := l) (by with_reducible assumption)).1 (mv_1 (by with_reducible assumption)).2 rfl rfl
  · exact IsX.new_ (mv_2 (l := l) (by with_reducible assumption) (by with_reducible assumption)).1 (mv_2 (by with_reducible assumption) (by with_reducible assumption)).2 rfl rfl
  · exact IsX.same_ (mv_3 (by with_reducible assumption) (by with_reducible assumption)) rfl
def e_bmoved {κ : Kp} (hκ : κ = kid) : ESpec Try.prog := fnES [.list, .flat, .flat] b_bmoved F_bmoved hκ fun avs p r hF hp => by
  unfold F_bmoved at hF
  split at hF
  case h_2 => cases hF
  rename_i l xl a b
  simp only [kid, Option.some.injEq, Prod.mk.injEq] at hF
  obtain ⟨rfl, rfl⟩ := hF
  refine ⟨fun x y h => by simp [SV.den, SV.den0, h], fun vs w hR => ?_⟩
  obtain ⟨il, Al, cl, vs0, rfl, rfl, hl, hR⟩ := hR
  obtain ⟨vs1, rfl, hR⟩ := hR
  obtain ⟨vs2, rfl, hR⟩ := hR
  have hR' : vs2 = [] := hR
  subst hR'
  exact (k_bmoved l a b Al cl hp w hl).mono fun e w' ⟨v, H', h1, h2, h3⟩ => ⟨v, H', h1, h2.swap rfl, h3⟩
theorem b_bmove : Bodied Try.prog 70 := bodied Try.func70 rfl (by decide)
def F_bmove : FunX := fun κ avs => match avs with
  | [.lst l xl, .val (.c (.v (.int .i64 m))), .val (.agg [.v (.int .i64 c1), .v (.int .i64 c2), .v (.int .i64 c3), .v (.int .i64 c4), .v (.int .i64 c5), .v (.int .i64 c6), .v (.int .i64 c7), .v (.int .i64 c8), .v (.int .i64 c9)])] => some (κ _ (l.length ≤ 300000), (.row 53 6 ((κ _ ((brkL l m (⟨c1, c2, c3, c4, c5, c6, c7, c8, c9⟩ : Cl).a).length))) ((κ _ (encL (brkL l m (⟨c1, c2, c3, c4, c5, c6, c7, c8, c9⟩ : Cl).a)))) (fun x => .tup [.c x, .c (.v (.int .i64 (κ _ (brkV l m (⟨c1, c2, c3, c4, c5, c6, c7, c8, c9⟩ : Cl).a)))), .agg [.v (.int .i64 (κ _ ((brkN l m (⟨c1, c2, c3, c4, c5, c6, c7, c8, c9⟩ : Cl).a).er))), .v (.int .i64 (κ _ ((brkN l m (⟨c1, c2, c3, c4, c5, c6, c7, c8, c9⟩ : Cl).a).v))), .v (.int .i64 (κ _ ((brkN l m (⟨c1, c2, c3, c4, c5, c6, c7, c8, c9⟩ : Cl).a).t.p))), .v (.bool (κ _ ((brkN l m (⟨c1, c2, c3, c4, c5, c6, c7, c8, c9⟩ : Cl).a).t.sh))), .v (.int .i64 (κ _ ((brkN l m (⟨c1, c2, c3, c4, c5, c6, c7, c8, c9⟩ : Cl).a).t.b))), .v (.int .i64 (κ _ ((brkN l m (⟨c1, c2, c3, c4, c5, c6, c7, c8, c9⟩ : Cl).a).t.o)))]])))
  | _ => none
set_option maxRecDepth 100000 in
set_option maxHeartbeats 4000000 in
theorem k_bmove (l : List Ar) (m : Int) (c1 : Int) (c2 : Int) (c3 : Int) (c4 : Int) (c5 : Int) (c6 : Int) (c7 : Int) (c8 : Int) (c9 : Int) (Al : Option Addr) (cl : Nat) (hside : l.length ≤ 300000) (w : World) (hl : (Ent.rd Al 6 l.length (encL l)).holds w) :
    Calls Try.prog 70 #[.slice Al l.length cl, (SV.c (.v (.int .i64 m))).den, (SV.agg [.v (.int .i64 c1), .v (.int .i64 c2), .v (.int .i64 c3), .v (.int .i64 c4), .v (.int .i64 c5), .v (.int .i64 c6), .v (.int .i64 c7), .v (.int .i64 c8), .v (.int .i64 c9)]).den] w fun e w' => ∃ v H', e = .returned v.den ∧ IsX (.row 53 6 (((brkL l m (⟨c1, c2, c3, c4, c5, c6, c7, c8, c9⟩ : Cl).a).length)) ((encL (brkL l m (⟨c1, c2, c3, c4, c5, c6, c7, c8, c9⟩ : Cl).a))) (fun x => .tup [.c x, .c (.v (.int .i64 (brkV l m (⟨c1, c2, c3, c4, c5, c6, c7, c8, c9⟩ : Cl).a))), .agg [.v (.int .i64 ((brkN l m (⟨c1, c2, c3, c4, c5, c6, c7, c8, c9⟩ : Cl).a).er)), .v (.int .i64 ((brkN l m (⟨c1, c2, c3, c4, c5, c6, c7, c8, c9⟩ : Cl).a).v)), .v (.int .i64 ((brkN l m (⟨c1, c2, c3, c4, c5, c6, c7, c8, c9⟩ : Cl).a).t.p)), .v (.bool ((brkN l m (⟨c1, c2, c3, c4, c5, c6, c7, c8, c9⟩ : Cl).a).t.sh)), .v (.int .i64 ((brkN l m (⟨c1, c2, c3, c4, c5, c6, c7, c8, c9⟩ : Cl).a).t.b)), .v (.int .i64 ((brkN l m (⟨c1, c2, c3, c4, c5, c6, c7, c8, c9⟩ : Cl).a).t.o))]])) v H' ∧ HSat w (fun _ => False) H' w' := by
  obtain ⟨κ, hκ⟩ : ∃ κ : Kp, κ = kid := ⟨_, rfl⟩
  have hH : HSat w (fun _ => False) (heapOf [(nilId, .rd none 1 0 []), (200000, .rd Al 6 (κ _ l.length) (κ _ (encL l)))]) w := by
    subst hκ
    refine HSat.reads fun p hp => ?_
    simp only [List.mem_cons, List.not_mem_nil, or_false] at hp
    rcases hp with rfl | rfl
    · exact ⟨_, _, _, _, rfl, nil_holds w⟩
    · exact ⟨_, _, _, _, rfl, hl⟩
  refine (callsP (n := 56) FTok [e_bwrong hκ, e_clone hκ, e_bup hκ, e_bmoved hκ, e_kept hκ] mixed [(6, [[], [0], [0, 1], [0, 1], [0, 1, 2, 3], [0, 1, 2, 3], [0, 1], [0], [0, 1, 2, 3, 4, 5, 6, 7], [0, 1, 2, 3, 4, 5, 6, 7], [], [], [], [12], [0, 1, 2, 3, 4, 5, 6, 7, 8, 9, 10, 11, 12, 13], [13], []]), (8, [[], [0], [0, 1], [1, 2], [2], []]), (9, [[], [0], [0], [0, 1, 2], [1, 2, 3], [3], []])] Try.func70 rfl (by kernel_rfl) #[.slice Al l.length cl, (SV.c (.v (.int .i64 m))).den, (SV.agg [.v (.int .i64 c1), .v (.int .i64 c2), .v (.int .i64 c3), .v (.int .i64 c4), .v (.int .i64 c5), .v (.int .i64 c6), .v (.int .i64 c7), .v (.int .i64 c8), .v (.int .i64 c9)]).den] [(0, .c (.sl 200000 Al (κ _ l.length) cl)), (1, .c (.v (.int .i64 m))), (2, .agg [.v (.int .i64 c1), .v (.int .i64 c2), .v (.int .i64 c3), .v (.int .i64 c4), .v (.int .i64 c5), .v (.int .i64 c6), .v (.int .i64 c7), .v (.int .i64 c8), .v (.int .i64 c9)])] _ w rfl [.tmp 6, .tmp 7, .cell 8 31] rfl (by simp) (by subst hκ; simp [SV.den, C.den, kid]) hH (fun v H' => IsX (.row 53 6 ((κ _ ((brkL l m (⟨c1, c2, c3, c4, c5, c6, c7, c8, c9⟩ : Cl).a).length))) ((κ _ (encL (brkL l m (⟨c1, c2, c3, c4, c5, c6, c7, c8, c9⟩ : Cl).a)))) (fun x => .tup [.c x, .c (.v (.int .i64 (κ _ (brkV l m (⟨c1, c2, c3, c4, c5, c6, c7, c8, c9⟩ : Cl).a)))), .agg [.v (.int .i64 (κ _ ((brkN l m (⟨c1, c2, c3, c4, c5, c6, c7, c8, c9⟩ : Cl).a).er))), .v (.int .i64 (κ _ ((brkN l m (⟨c1, c2, c3, c4, c5, c6, c7, c8, c9⟩ : Cl).a).v))), .v (.int .i64 (κ _ ((brkN l m (⟨c1, c2, c3, c4, c5, c6, c7, c8, c9⟩ : Cl).a).t.p))), .v (.bool (κ _ ((brkN l m (⟨c1, c2, c3, c4, c5, c6, c7, c8, c9⟩ : Cl).a).t.sh))), .v (.int .i64 (κ _ ((brkN l m (⟨c1, c2, c3, c4, c5, c6, c7, c8, c9⟩ : Cl).a).t.b))), .v (.int .i64 (κ _ ((brkN l m (⟨c1, c2, c3, c4, c5, c6, c7, c8, c9⟩ : Cl).a).t.o)))]])) v H') hκ ?_).mono ?_
  rotate_left
  · subst hκ; intro e w' h; exact h
  intro P' hP'
  cbv
  repeat' (first | refine And.intro ?_ ?_ | (intro _; cbv) | (refine tst_mk (fun h => ?_) (fun h => ?_) <;> cbv) | (refine LookX.nil ?_; cbv) | (refine LookX.auto hκ ?_; cbv))
  all_goals (try (show Side _; refine ⟨?_⟩; subst hκ; delta kid at *; first | exact rfl | exact trivial | exact ⟨rfl, rfl, .inl rfl⟩ | exact ⟨hside, hside⟩ | exact ⟨hside, brkMv_bd _ _ _ hside (by omega)⟩ | ((try dsimp only at *); (try simp only [setTo_len, noS_len, List.length_append, List.length_cons, List.length_nil, List.length_map, and_self, true_or, or_true, eq_self, true_and, and_true, Nat.zero_add, Nat.add_zero]); (first | done | omega); done)))
  all_goals (clear hH; subst hκ; delta kid at *; (try dsimp only at *))
  all_goals (try have hst := (mv_4 (l := l) (by with_reducible assumption : brkStay (upG m) (upG c2) = true)).symm)
  all_goals (show IsX _ _ _; refine IsX.row3 rfl rfl (fun x => ?_) ?_ <;> (try simp only [brkL, brkN, brkV, brkK, errA, okA, noAt, *, Bool.or_true, Bool.true_or, Bool.or_false, Bool.false_or, Bool.and_true, Bool.true_and, Bool.and_false, Bool.false_and, Bool.not_true, Bool.not_false, if_true, if_false, Bool.false_eq_true]) <;> (try rfl))
def e_bmove {κ : Kp} (hκ : κ = kid) : ESpec Try.prog := fnES [.list, .flat, .flat] b_bmove F_bmove hκ fun avs p r hF hp => by
  unfold F_bmove at hF
  split at hF
  case h_2 => cases hF
  rename_i l xl m c1 c2 c3 c4 c5 c6 c7 c8 c9
  simp only [kid, Option.some.injEq, Prod.mk.injEq] at hF
  obtain ⟨rfl, rfl⟩ := hF
  refine ⟨fun x y h => by simp [SV.den, SV.den0, h], fun vs w hR => ?_⟩
  obtain ⟨il, Al, cl, vs0, rfl, rfl, hl, hR⟩ := hR
  obtain ⟨vs1, rfl, hR⟩ := hR
  obtain ⟨vs2, rfl, hR⟩ := hR
  have hR' : vs2 = [] := hR
  subst hR'
  exact k_bmove l m c1 c2 c3 c4 c5 c6 c7 c8 c9 Al cl hp w hl
end Go.Proofs.Ytbcicjmepojlnaa.Eng
/- Contracts of functions (printed by genx.py of this work): what each hands back; condition: as its 'hside' says. -/
namespace Go.Proofs.Ytbcicjmepojlnaa.Eng
open Go Go.RowKit
set_option linter.unusedVariables false
set_option linter.unusedSimpArgs false
theorem b_rbright : Bodied Try.prog 71 := bodied Try.func71 rfl (by decide)
def F_rbright : FunX := fun κ avs => match avs with
  | [.val (.c (.v (.int .i64 n)))] => some (κ _ (True), (.val (.c (.v (.bool (κ _ (brkR n)))))))
  | _ => none
set_option maxRecDepth 100000 in
set_option maxHeartbeats 4000000 in
theorem k_rbright (n : Int) (hside : True) (w : World) :
    Calls Try.prog 71 #[(SV.c (.v (.int .i64 n))).den] w fun e w' => ∃ v H', e = .returned v.den ∧ IsX (.val (.c (.v (.bool (brkR n))))) v H' ∧ HSat w (fun _ => False) H' w' := by
  obtain ⟨κ, hκ⟩ : ∃ κ : Kp, κ = kid := ⟨_, rfl⟩
  have hH : HSat w (fun _ => False) (heapOf [(nilId, .rd none 1 0 [])]) w := by
    subst hκ
    refine HSat.reads fun p hp => ?_
    simp only [List.mem_cons, List.not_mem_nil, or_false] at hp
    rcases hp with rfl
    · exact ⟨_, _, _, _, rfl, nil_holds w⟩
  refine (callsP (n := 9) FTok [] mixed [] Try.func71 rfl (by kernel_rfl) #[(SV.c (.v (.int .i64 n))).den] [(0, .c (.v (.int .i64 n)))] _ w rfl [.tmp 2] rfl (by simp) (by subst hκ; simp [SV.den, C.den, kid]) hH (fun v H' => IsX (.val (.c (.v (.bool (κ _ (brkR n)))))) v H') hκ ?_).mono ?_
  rotate_left
  · subst hκ; intro e w' h; exact h
  intro P' hP'
  cbv
  repeat' (first | refine And.intro ?_ ?_ | (intro _; cbv) | (refine tst_mk (fun h => ?_) (fun h => ?_) <;> cbv) | (refine LookX.nil ?_; cbv) | (refine LookX.auto hκ ?_; cbv))
  all_goals (try (show Side _; refine ⟨?_⟩; subst hκ; delta kid at *; first | exact rfl | exact trivial | exact ⟨rfl, rfl, .inl rfl⟩ | ((try dsimp only at *); (try simp only [setTo_len, noS_len, List.length_append, List.length_cons, List.length_nil, List.length_map, and_self, true_or, or_true, eq_self, true_and, and_true, Nat.zero_add, Nat.add_zero]); (first | done | omega); done)))
  all_goals (clear hH; subst hκ; delta kid at *; (try dsimp only at *))
  all_goals (try (exact ⟨trivial⟩))
  all_goals (try (exact ⟨by decide⟩))
  all_goals (show IsX _ _ _; refine IsX.val_ ?_; simp only [SV.den, SV.den0, C.den, List.map_cons, List.map_nil, brkR, GT.gt, GE.ge]; (try simp only [*, Bool.or_true, Bool.true_or, Bool.or_false, Bool.false_or, Bool.and_true, Bool.true_and, Bool.and_false, Bool.false_and, Bool.not_true, Bool.not_false, if_true, if_false, Bool.false_eq_true]); (first | done | rfl | (exfalso; simp_all; done) | skip))
def e_rbright {κ : Kp} (hκ : κ = kid) : ESpec Try.prog := fnES [.flat] b_rbright F_rbright hκ fun avs p r hF hp => by
  unfold F_rbright at hF
  split at hF
  case h_2 => cases hF
  rename_i n
  simp only [kid, Option.some.injEq, Prod.mk.injEq] at hF
  obtain ⟨rfl, rfl⟩ := hF
  refine ⟨trivial, fun vs w hR => ?_⟩
  obtain ⟨vs0, rfl, hR⟩ := hR
  have hR' : vs0 = [] := hR
  subst hR'
  exact k_rbright n hp w
end Go.Proofs.Ytbcicjmepojlnaa.Eng
/- Contracts of functions (printed by genx.py of this work): what each hands back; condition: as its 'hside' says. -/
namespace Go.Proofs.Ytbcicjmepojlnaa.Eng
open Go Go.RowKit
set_option linter.unusedVariables false
set_option linter.unusedSimpArgs false
theorem b_awake13 : Bodied Try.prog 69 := bodied Try.func69 rfl (by decide)
def F_awake13 : FunX := fun κ avs => match avs with
  | [] => some (κ _ (True), (.val (.c (.v (.bool true)))))
  | _ => none
set_option maxRecDepth 100000 in
set_option maxHeartbeats 4000000 in
theorem k_awake13 (hside : True) (w : World) :
    Calls Try.prog 69 #[] w fun e w' => ∃ v H', e = .returned v.den ∧ IsX (.val (.c (.v (.bool true)))) v H' ∧ HSat w (fun _ => False) H' w' := by
  obtain ⟨κ, hκ⟩ : ∃ κ : Kp, κ = kid := ⟨_, rfl⟩
  have hH : HSat w (fun _ => False) (heapOf [(nilId, .rd none 1 0 [])]) w := by
    subst hκ
    refine HSat.reads fun p hp => ?_
    simp only [List.mem_cons, List.not_mem_nil, or_false] at hp
    rcases hp with rfl
    · exact ⟨_, _, _, _, rfl, nil_holds w⟩
  refine (callsP (n := 27) FTok [e_bmove hκ] mixed [] Try.func69 rfl (by kernel_rfl) #[] [] _ w rfl [.tmp 0] rfl (by simp) (by subst hκ; simp [SV.den, C.den, kid]) hH (fun v H' => IsX (.val (.c (.v (.bool true)))) v H') hκ ?_).mono ?_
  rotate_left
  · subst hκ; intro e w' h; exact h
  intro P' hP'
  cbv
  repeat' (first | refine And.intro ?_ ?_ | (intro _; cbv) | (refine tst_mk (fun h => ?_) (fun h => ?_) <;> cbv) | (refine LookX.nil ?_; cbv) | (refine LookX.auto hκ ?_; cbv))
  all_goals (subst hκ; delta kid at *)
  all_goals (try (show Side _; exact ⟨⟨rfl, rfl, .inl rfl⟩⟩))
  all_goals (try (show Side _; refine ⟨?_⟩; decide +kernel))
  all_goals (try (show IsX _ _ _; refine IsX.bool_ ?_; decide +kernel))
  all_goals (first | exact absurd h (by decide +kernel) | trace_state)
def e_awake13 {κ : Kp} (hκ : κ = kid) : ESpec Try.prog := fnES [] b_awake13 F_awake13 hκ fun avs p r hF hp => by
  unfold F_awake13 at hF
  split at hF
  case h_2 => cases hF
  simp only [kid, Option.some.injEq, Prod.mk.injEq] at hF
  obtain ⟨rfl, rfl⟩ := hF
  refine ⟨trivial, fun vs w hR => ?_⟩
  have hR' : vs = [] := hR
  subst hR'
  exact k_awake13 hp w
end Go.Proofs.Ytbcicjmepojlnaa.Eng
/- Contracts of functions (printed by genx.py of this work): what each hands back; condition: as its 'hside' says. -/
namespace Go.Proofs.Ytbcicjmepojlnaa.Eng
open Go Go.RowKit
set_option linter.unusedVariables false
set_option linter.unusedSimpArgs false
set_option maxRecDepth 100000 in
set_option maxHeartbeats 4000000 in
theorem k_brkSteps (ws : List Int) (Aws : Option Addr) (cws : Nat) (hside : True) (w : World) (hws : (Ent.rd Aws 1 ws.length (encW ws)).holds w) :
    Calls Try.prog 21 #[.slice Aws ws.length cws] w fun e w' => ∃ v H', e = .returned v.den ∧ IsX (.val (.c (.v (.bool true)))) v H' ∧ HSat w (fun _ => False) H' w' := by
  obtain ⟨κ, hκ⟩ : ∃ κ : Kp, κ = kid := ⟨_, rfl⟩
  have hH : HSat w (fun _ => False) (heapOf [(nilId, .rd none 1 0 []), (200000, .rd Aws 1 (κ _ ws.length) (κ _ (encW ws)))]) w := by
    subst hκ
    refine HSat.reads fun p hp => ?_
    simp only [List.mem_cons, List.not_mem_nil, or_false] at hp
    rcases hp with rfl | rfl
    · exact ⟨_, _, _, _, rfl, nil_holds w⟩
    · exact ⟨_, _, _, _, rfl, hws⟩
  refine (callsP (n := 106) FTok [e_awake13 hκ, e_bmove hκ, e_rbright hκ] mixed [] Try.func21 rfl (by kernel_rfl) #[.slice Aws ws.length cws] [(0, .c (.sl 200000 Aws (κ _ ws.length) cws))] _ w rfl [.tmp 2] rfl (by simp) (by subst hκ; simp [SV.den, C.den, kid]) hH (fun v H' => IsX (.val (.c (.v (.bool true)))) v H') hκ ?_).mono ?_
  rotate_left
  · subst hκ; intro e w' h; exact h
  intro P' hP'
  cbv
  repeat' (first | refine And.intro ?_ ?_ | (intro _; cbv) | (refine tst_mk (fun h => ?_) (fun h => ?_) <;> cbv) | (refine LookX.nil ?_; cbv) | (refine LookX.auto hκ ?_; cbv))
  all_goals (try (show IsX _ _ _; subst hκ; exact IsX.val_ rfl))
  all_goals (try (exact ⟨by subst hκ; exact trivial⟩))
  have hn : ws.length ≤ 20 := by subst hκ; delta kid at h; have h2 : ¬ (20 : Int) < (ws.length : Int) := of_decide_eq_false h; omega
  clear h
  refine loopP hP' FTok [e_bmove hκ, e_rbright hκ] mixed [0] (σ := Nat × {m : Int // BrOk m} × Option Addr × Nat) (fun q => [(3, .c (.sl 300000 q.2.2.1 (κ _ (stepP q.2.1.1).length) q.2.2.2)), (4, .c (.v (.int .i64 (κ _ q.2.1.1)))), (5, .c (.v (.int .i64 (κ _ ((q.1 : Nat) : Int)))))]) (fun q => [(200000, .rd Aws 1 (κ _ ws.length) (κ _ (encW ws))), (300000, .row q.2.2.1 q.2.2.2 53 6 (κ _ (stepP q.2.1.1).length) (κ _ (encL (stepP q.2.1.1))))]) (fun q => ws.length - q.1) (0, ⟨65536, ⟨by decide, by decide⟩⟩, none, 0) [200000, 999999] ?_ (by decide) ?_ hκ ?_
  · cbv
    all_goals (subst hκ; delta kid; repeat' (first | exact rfl | exact trivial | refine And.intro ?_ ?_))
  · cbv
    all_goals (subst hκ; delta kid; repeat' (first | exact rfl | exact trivial | refine And.intro ?_ ?_))
  rintro ⟨i, ⟨m, hm⟩, A2, c2⟩
  cbv
  refine tst_mk (fun h => ?_) (fun h => ?_)
  · have hx : i < ws.length := by subst hκ; delta kid at h; have h2 : (i : Int) < (ws.length : Int) := of_decide_eq_true h; omega
    clear h
    obtain ⟨e1, e2, e3⟩ := st_all hm (nthW ws i)
    cbv
    repeat' (first | refine And.intro ?_ ?_ | (intro _; cbv) | (refine tst_mk (fun h => ?_) (fun h => ?_) <;> first | (exfalso; subst hκ; delta kid at h; exact absurd h (by decide)) | (exfalso; subst hκ; delta kid at *; cases (h.symm.trans (by with_reducible assumption : _ = false)); done) | (exfalso; subst hκ; delta kid at *; cases (h.symm.trans (by with_reducible assumption : _ = true)); done) | (exfalso; subst hκ; delta kid at *; exact (beq_no (by with_reducible assumption)) (bne_no h)) | (exfalso; subst hκ; delta kid at *; exact (beq_no h) (beq_yes (by with_reducible assumption))) | (exfalso; subst hκ; delta kid at *; exact (beq_no (by with_reducible assumption)) (beq_yes h)) | cbv) | (refine LookX.nil ?_; cbv) | (refine LookX.auto hκ ?_; cbv) | (refine LookR.mk' (x := .v (.int .i64 (κ _ (nthW ws i)))) (by subst hκ; delta kid at *; exact wa_v hx) ?_; cbv) | (refine LookN.mk' (x := [.v (.int .i64 (κ _ (nthA (brkL (stepP m) m (nthW ws i)) 0).s)), .v (.int .i64 (κ _ (nthA (brkL (stepP m) m (nthW ws i)) 0).e)), .v (.int .i64 (κ _ (nthA (brkL (stepP m) m (nthW ws i)) 0).p)), .v (.bool (κ _ (nthA (brkL (stepP m) m (nthW ws i)) 0).sh)), .v (.int .i64 (κ _ (nthA (brkL (stepP m) m (nthW ws i)) 0).b)), .v (.int .i64 (κ _ (nthA (brkL (stepP m) m (nthW ws i)) 0).o))]) (by subst hκ; delta kid at *; exact st_take (by with_reducible assumption)) ?_; cbv))
    all_goals (try (show Side _; refine ⟨?_⟩; subst hκ; delta kid at *; first | exact rfl | exact trivial | exact ⟨rfl, rfl, .inl rfl⟩ | exact Nat.le_trans (step_rt hm).2 (by decide) | ((try dsimp only at *); (try simp only [setTo_len, noS_len, List.length_append, List.length_cons, List.length_nil, List.length_map, and_self, true_or, or_true, eq_self, true_and, and_true, Nat.zero_add, Nat.add_zero]); (first | done | omega); done)))
    all_goals (clear hH; subst hκ; delta kid at *; (try dsimp only at *))
    all_goals (try (exact ⟨wa_ix hx⟩))
    all_goals (try (show Side _; exact ⟨st_ix (by with_reducible assumption)⟩))
    all_goals (try (show IsX _ _ _; exfalso; first | cases (h.symm.trans (sf_1 hm (by with_reducible assumption))) | cases (h.symm.trans (sf_2 hm (by with_reducible assumption))) | cases (h.symm.trans (sf_3 hm (by with_reducible assumption))) | cases (h.symm.trans (sf_4 hm (by with_reducible assumption))) | cases (h.symm.trans (sf_5 hm (by with_reducible assumption))) | cases (h.symm.trans (sf_6 hm (by with_reducible assumption))) | exact sf_7 hm (by with_reducible assumption) (by with_reducible assumption)))
    all_goals (refine ⟨⟨(i + 1, ⟨stN m (nthW ws i), st_ok hm⟩, ?_, ?_), [200000, 33], (by show ws.length - (i + 1) < ws.length - i; omega), by decide, ?_, ?_⟩⟩)
    all_goals (try repeat' (first | exact rfl | exact trivial | refine And.intro ?_ ?_ | exact congrArg (fun L => Value.slice _ (List.length L) _) e1 | exact congrArg (Value.int .i64) e2 | exact congrArg (Value.int .i64) (nat_succ (by omega)) | exact congrArg List.length e1 | exact congrArg encL e1))
  · cbv
    (clear hH; subst hκ; delta kid at *; (try dsimp only at *))
    exact IsX.val_ rfl
end Go.Proofs.Ytbcicjmepojlnaa.Eng
