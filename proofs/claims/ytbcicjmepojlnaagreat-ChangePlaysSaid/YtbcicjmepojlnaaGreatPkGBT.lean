/- Texts of this work, laid together: symbolic execution over the model, contracts of the program's functions, what they come to; conditions: as each says. -/
import Derived.Test.YtbcicjmepojlnaaGreatPkGBM
import Derived.Test.YtbcicjmepojlnaaGreatPkGBN
/- Remap: what the reference's pages come to; no condition but those typed. -/
namespace Go.Proofs.YtbcicjmepojlnaaGreat.Eng
open Go Go.RowKit
set_option autoImplicit false
set_option linter.unusedSimpArgs false
set_option linter.unusedVariables false
set_option linter.unusedSectionVars false
theorem put_pagesG {s : List Pg} (hg : GoodS s) {a : Ar} (ha : Fo a) : listS (ofA a s (lenA a)) = putL (listS s) a := by
  obtain ⟨p1, p2⟩ := of_paints s a ha hg.1
  obtain ⟨k1, k2⟩ := listS_spec hg
  have a1 := ha.s0; have a2 := ha.e0; have a3 := ha.lo; have a4 := ha.hi; have a5 := ha.lt
  have hg2 : GoodS (ofA a s (lenA a)) := ⟨p1, fun q hq hi => by
    by_cases hin : inA a (4096 * (q : Int))
    · have e := (p2 q hq).1 hin
      rw [e]
      exact ⟨by have := hin.1; omega, ext_good ha hin (by omega)⟩
    · have e := (p2 q hq).2 hin
      rw [e] at hi ⊢
      exact hg.2 q hq hi⟩
  obtain ⟨l1, l2⟩ := listS_spec hg2
  obtain ⟨s1, s2⟩ := put_spec k1 ha
  refine rt_ext l1 s1 fun x t hx => ?_
  rw [l2 x t hx, s2 x t hx, k2 x t hx]
  constructor
  · rintro ⟨q, rfl, g1, g2, g3, g4⟩
    by_cases hin : inA a (4096 * (q : Int))
    · have e := (p2 q g2).1 hin
      rw [e] at g4
      exact .inl ⟨hin, g4⟩
    · have e := (p2 q g2).2 hin
      rw [e] at g3 g4
      exact .inr ⟨⟨q, rfl, g1, g2, g3, g4⟩, hin⟩
  · rintro (⟨hin, rfl⟩ | ⟨⟨q, rfl, g1, g2, g3, g4⟩, hin⟩)
    · have := hin.1
      have := hin.2
      have ex : 4096 * ((x / 4096).toNat : Int) = x := by omega
      have e := (p2 (x / 4096).toNat (by omega)).1 (by rw [ex]; exact hin)
      refine ⟨(x / 4096).toNat, ex.symm, by omega, by omega, by rw [e]; rfl, ?_⟩
      rw [e]
      show ext a (4096 * ((x / 4096).toNat : Int)) = _
      rw [ex]
    · have e := (p2 q g2).2 hin
      exact ⟨q, rfl, g1, g2, by rw [e]; exact g3, by rw [e]; exact g4⟩
theorem wo_good {s : List Pg} (hg : GoodS s) {q0 k : Nat} (h : q0 + k ≤ 512) : GoodS (woP q0 s k) := ⟨by rw [woP_len, hg.1], fun q hq' hi' => by
  rw [woP_get q0 hg.1 k h q] at hi' ⊢
  split at hi'
  · cases hi'
  · rename_i hc
    rw [if_neg hc]
    exact hg.2 q hq' hi'⟩
structure FoundOk (l : List Ar) (lo hi : Int) : Prop where
  rt : Rt l
  rg : RgOk lo hi
  fd : foundL l lo = true
  en : hi ≤ (findL l lo).e
section
variable {l : List Ar} {lo hi : Int} (k : FoundOk l lo hi)
include k
theorem fd_mem : findL l lo ∈ l ∧ (findL l lo).s ≤ lo ∧ lo < (findL l lo).e ∧ Fo (findL l lo) := by
  obtain ⟨h1, h2⟩ := (found_spec k.rt lo).2 k.fd
  exact ⟨h1, h2.1, h2.2, fo.1 (k.rt.1 _ h1)⟩
theorem fd_part : partA (findL l lo) lo hi = ⟨lo, hi, (findL l lo).p, (findL l lo).sh, (findL l lo).b, offA (findL l lo) lo⟩ := by
  obtain ⟨h1, h2, h3, h4⟩ := fd_mem k
  exact (hasPart_in (fo.2 h4) h2 k.rg.lt k.en k.rg.z k.rg.z2).2.2.2
theorem fd_fo : Fo (partA (findL l lo) lo hi) := by
  obtain ⟨h1, h2, h3, h4⟩ := fd_mem k
  rw [fd_part k]
  exact fo.1 (formed_sub (fo.2 h4) h2 k.rg.lt k.en k.rg.z k.rg.z2)
theorem fd_page : (nthP (ofL l) (lo / 4096).toNat).is = true ∧ (nthP (ofL l) (lo / 4096).toNat).t = ⟨(partA (findL l lo) lo hi).p, (partA (findL l lo) lo hi).sh, (partA (findL l lo) lo hi).b, (partA (findL l lo) lo hi).o⟩ := by
  obtain ⟨h1, h2, h3, h4⟩ := fd_mem k
  have r1 := k.rg.lo; have r2 := k.rg.hi; have r3 := k.rg.lt; have r4 := k.rg.z
  have ex : 4096 * ((lo / 4096).toNat : Int) = lo := by omega
  obtain ⟨e1, e2⟩ := has_of k.rt.ok (q := (lo / 4096).toNat) (t := ext (findL l lo) lo) (by rw [ex]; exact ⟨_, h1, ⟨h2, h3⟩, rfl⟩)
  refine ⟨e1, e2.trans ?_⟩
  rw [fd_part k]
  show (⟨_, _, _, offP (findL l lo) lo⟩ : At) = ⟨_, _, _, offA (findL l lo) lo⟩
  rw [offP_eq h4 (by omega) (by omega)]
end
theorem len_of {a : Ar} (h : Fo a) {p n : Int} (h1 : a.s = p) (h2 : a.e = p + n) : lenA a = ((p + n) / 4096).toNat - (p / 4096).toNat := by
  have := h.lo
  have := h.lt
  unfold lenA
  rw [h1, h2]
  omega
theorem put_at {s : List Pg} (hs : GoodS s) {a : Ar} (h : Fo a) {p n : Int} (h1 : a.s = p) (h2 : a.e = p + n) : listS (withP ⟨a.p, a.sh, a.b, a.o⟩ (p / 4096).toNat s (((p + n) / 4096).toNat - (p / 4096).toNat)) = putL (listS s) a := by
  rw [← put_pagesG hs h, ← with_of h hs.1, len_of h h1 h2, h1]
theorem wo_list {l : List Ar} (hl : Rt l) {lo hi : Int} (h : RgOk lo hi) : GoodS (woP (lo / 4096).toNat (ofL l) ((hi / 4096).toNat - (lo / 4096).toNat)) ∧ listS (woP (lo / 4096).toNat (ofL l) ((hi / 4096).toNat - (lo / 4096).toNat)) = cutL l lo hi := by
  have h1 := h.lo; have h2 := h.hi; have h3 := h.lt
  exact ⟨wo_good (good_of hl) (by omega), cut_pages hl h⟩
theorem free_fits2 {l : List Ar} (hl : Rt l) {a n : Int} (h1 : 16 ≤ a) (h2 : a ≤ 512) (h3 : 1 ≤ n) (h4 : n ≤ 496) : freeS (ofL l) a n = fitsL l (4096 * a) (4096 * n) := by
  by_cases hc : a + n ≤ 512
  · have e := free_fits hl h1 (show a < a + n by omega) hc
    have e1 : a + n - a = n := by omega
    have e2 : 4096 * (a + n) - 4096 * a = 4096 * n := by omega
    rw [e1, e2] at e
    exact e
  · have e1 : freeS (ofL l) a n = false := by
      unfold freeS
      rw [if_pos]
      simp only [Bool.or_eq_true, decide_eq_true_eq]
      omega
    rw [e1]
    cases hb : fitsL l (4096 * a) (4096 * n) with
    | false => rfl
    | true =>
      have := (fits_iff hl (by unfold In64; omega) (by unfold In64; omega)).1 hb
      omega
/-! ### Flags -/
theorem rfl_all : ∀ f : Fin 64, (Int.tmod (f.val : Int) 2 == 1) = bitB f.val 1 ∧ (Int.tmod (IntKind.i64.wrap (Int.tdiv (f.val : Int) 16)) 2 == 1) = bitB f.val 16 ∧ (Int.tmod (IntKind.i64.wrap (Int.tdiv (f.val : Int) 32)) 2 == 1) = bitB f.val 32 ∧
    rmFl f.val = (if (decide (0 < Int.tmod (IntKind.i64.wrap (Int.tdiv (f.val : Int) 2)) 8) || (!bitB f.val 16 && (bitB f.val 1 || bitB f.val 32))) = true then 1 else 0) := by decide +kernel
theorem rfl_is {f : Int} (h1 : decide (f < 0) = false) (h2 : decide (63 < f) = false) : (Int.tmod f 2 == 1) = bitB f 1 ∧ (Int.tmod (IntKind.i64.wrap (Int.tdiv f 16)) 2 == 1) = bitB f 16 ∧ (Int.tmod (IntKind.i64.wrap (Int.tdiv f 32)) 2 == 1) = bitB f 32 ∧
    rmFl f = (if (decide (0 < Int.tmod (IntKind.i64.wrap (Int.tdiv f 2)) 8) || (!bitB f 16 && (bitB f 1 || bitB f 32))) = true then 1 else 0) := by
  have a1 := of_decide_eq_false h1
  have a2 := of_decide_eq_false h2
  have := rfl_all ⟨f.toNat, by omega⟩
  have e : ((f.toNat : Nat) : Int) = f := by omega
  simp only [e] at this
  exact this
theorem rfl_no {f : Int} (h64 : In64 f) (h : decide (f < 0) = true ∨ decide (63 < f) = true) : rmFl f = 1 := by
  have e : flagsE f 49 = 1 := by
    unfold flagsE
    rcases h with h | h
    · rw [h]; rfl
    · have a := of_decide_eq_true h
      have b := h64.2
      obtain ⟨m, rfl⟩ : ∃ m : Nat, f = m := ⟨f.toNat, by omega⟩
      have k := andNot_zero m 49 (by omega) (by omega)
      rw [if_pos]
      rw [Bool.or_eq_true]
      refine .inr ?_
      rw [bne_iff_ne]
      intro hc
      have h3 := k.1 hc
      have h4 := Nat.and_le_right (n := m) (m := 49)
      omega
  unfold rmFl
  rw [e]
  rfl
end Go.Proofs.YtbcicjmepojlnaaGreat.Eng
/- Remap: the reference's branches, as the program's; no condition but those typed. -/
namespace Go.Proofs.YtbcicjmepojlnaaGreat.Eng
open Go Go.RowKit
set_option autoImplicit false
set_option linter.unusedSimpArgs false
set_option linter.unusedVariables false
set_option linter.unusedSectionVars false
/-! ### one -/
def oneE (l : List Ar) (lo : Int) : Int := if foundL l lo = true then (findL l lo).e else 0
def oneB (l : List Ar) (lo hi : Int) : Bool := foundL l lo && decide (hi ≤ (findL l lo).e)
theorem has_ar {a : Ar} (h : Fo a) (x : Int) : hasA a x = (decide (a.s ≤ x) && decide (x < a.e)) := by
  unfold hasA
  rw [fo.2 h, Bool.true_and]
section
variable {l : List Ar} {lo hi : Int} {i : Nat}
theorem one_hit (hl : Rt l) (hx : i < l.length) (hf : ∀ j : Nat, j < i → hasA (nthA l j) lo = false) (h1 : decide ((nthA l i).s ≤ lo) = true) (h2 : decide (lo < (nthA l i).e) = true) : foundL l lo = true ∧ findL l lo = nthA l i := by
  have hh : hasA (nthA l i) lo = true := by rw [has_ar (formed_at hl.1 hx), h1, h2]; rfl
  have e := idx_yes hx hh hf
  have hd : decide (0 ≤ idxI l lo) = true := by rw [e, decide_eq_true_eq]; omega
  have e2 := (idx_lt hd).2
  have hi : idxL l lo = i := by rw [e] at e2; omega
  have hfd : foundL l lo = true := by
    unfold foundL
    rw [show decide (idxI l lo ≥ 0) = true from hd, of_rt hl]
    rfl
  refine ⟨hfd, ?_⟩
  unfold findL
  rw [if_pos hfd, hi]
theorem one_y (hl : Rt l) (hx : i < l.length) (hf : ∀ j : Nat, j < i → hasA (nthA l j) lo = false) (h1 : decide ((nthA l i).s ≤ lo) = true) (h2 : decide (lo < (nthA l i).e) = true) : (nthA l i).e = oneE l lo ∧ decide (hi ≤ (nthA l i).e) = oneB l lo hi := by
  obtain ⟨a, b⟩ := one_hit hl hx hf h1 h2
  unfold oneE oneB
  rw [a, b]
  exact ⟨rfl, (Bool.true_and _).symm⟩
theorem one_n1 (hl : Rt l) (hx : i < l.length) (h1 : decide ((nthA l i).s ≤ lo) = false) : hasA (nthA l i) lo = false := by rw [has_ar (formed_at hl.1 hx), h1]; rfl
theorem one_n2 (hl : Rt l) (hx : i < l.length) (h1 : decide (lo < (nthA l i).e) = false) : hasA (nthA l i) lo = false := by rw [has_ar (formed_at hl.1 hx), h1, Bool.and_false]
theorem one_end (hx : ¬ i < l.length) (hf : ∀ j : Nat, j < i → hasA (nthA l j) lo = false) : (0 : Int) = oneE l lo ∧ false = oneB l lo hi := by
  have e := idx_no (l := l) (x := lo) fun j hj => hf j (by omega)
  have hfd : foundL l lo = false := by
    unfold foundL
    rw [e]
    rfl
  unfold oneE oneB
  rw [hfd]
  exact ⟨rfl, rfl⟩
end
theorem IsX.ib {a a' : Int} {b b' : Bool} {H' : Heap} (h : a' = a ∧ b' = b) : IsX (.val (.tup [.c (.v (.int .i64 a)), .c (.v (.bool b))])) (.tup [.c (.v (.int .i64 a')), .c (.v (.bool b'))]) H' := by
  obtain ⟨rfl, rfl⟩ := h
  exact IsX.val_ rfl
/-! ### moved -/
def mvS (l : List Ar) (st : Bool) (lo hi : Int) (o : Ar) (p n : Int) : List Ar := putL (if st = true then l else cutL l lo hi) (mvA o p n)
abbrev oldA (l : List Ar) (lo hi : Int) : Ar := partA (findL l lo) lo hi
abbrev pgT (l : List Ar) (lo : Int) : At := (nthP (ofL l) (lo / 4096).toNat).t
structure MvOk (l : List Ar) (lo hi p n : Int) : Prop where
  fd : FoundOk l lo hi
  rg : RgOk p (p + n)
  fo : Fo (mvA (oldA l lo hi) p n)
section
variable {l : List Ar} {lo hi p n : Int} (k : MvOk l lo hi p n)
include k
theorem mv_w : IntKind.i64.wrap (p + n) = p + n := by
  have h1 := k.rg.lo; have h2 := k.rg.hi; have h3 := k.rg.lt
  exact w64_id (by unfold In64; omega)
theorem mv_page : pgT l lo = ⟨(mvA (oldA l lo hi) p n).p, (mvA (oldA l lo hi) p n).sh, (mvA (oldA l lo hi) p n).b, (mvA (oldA l lo hi) p n).o⟩ := (fd_page k.fd).2
theorem mv_stay : listS (withP ⟨(pgT l lo).p, (pgT l lo).sh, (pgT l lo).b, (pgT l lo).o⟩ (p / 4096).toNat (ofL l) ((IntKind.i64.wrap (p + n) / 4096).toNat - (p / 4096).toNat)) = mvS l true lo hi (oldA l lo hi) p n := by
  rw [mv_w k, mv_page k]
  have e := put_at (good_of k.fd.rt) k.fo (p := p) (n := n) rfl (mv_w k)
  rw [list_of k.fd.rt] at e
  exact e
theorem mv_go : listS (withP ⟨(pgT l lo).p, (pgT l lo).sh, (pgT l lo).b, (pgT l lo).o⟩ (p / 4096).toNat (woP (lo / 4096).toNat (ofL l) ((hi / 4096).toNat - (lo / 4096).toNat)) ((IntKind.i64.wrap (p + n) / 4096).toNat - (p / 4096).toNat)) = mvS l false lo hi (oldA l lo hi) p n := by
  rw [mv_w k, mv_page k]
  obtain ⟨g1, g2⟩ := wo_list k.fd.rt k.fd.rg
  have e := put_at g1 k.fo (p := p) (n := n) rfl (mv_w k)
  rw [g2] at e
  exact e
theorem mv_adr : decide (lo < 65536) = false ∧ decide (2097152 ≤ lo) = false := by
  have h1 := k.fd.rg.lo; have h2 := k.fd.rg.hi; have h3 := k.fd.rg.lt
  exact ⟨by rw [decide_eq_false_iff_not]; omega, by rw [decide_eq_false_iff_not]; omega⟩
theorem mv_side1 : 0 ≤ lo ∧ lo ≤ hi ∧ hi ≤ 2097152 := by
  have h1 := k.fd.rg.lo; have h2 := k.fd.rg.hi; have h3 := k.fd.rg.lt
  omega
theorem mv_side2 : 0 ≤ p ∧ p ≤ IntKind.i64.wrap (p + n) ∧ IntKind.i64.wrap (p + n) ≤ 2097152 := by
  rw [mv_w k]
  have h1 := k.rg.lo; have h2 := k.rg.hi; have h3 := k.rg.lt
  omega
end
theorem zero_fits {s : List Pg} (h : s.length = 512) : 0 + (encS s).length ≤ (List.replicate 512 [C.v (.bool false), .v (.int .i64 0), .v (.bool false), .v (.int .i64 0), .v (.int .i64 0)]).flatten.length := by
  rw [encS_noS, encS_len, encS_len, h, noS_len]
  omega
/-! ### Flags -/
section
variable {f : Int} (h1 : decide (f < 0) = false) (h2 : decide (63 < f) = false)
include h1 h2
theorem rmFl_ok (h3 : decide (0 < Int.tmod (IntKind.i64.wrap (Int.tdiv f 2)) 8) = false) (h4 : (Int.tmod (IntKind.i64.wrap (Int.tdiv f 16)) 2 == 1) = true ∨ ((Int.tmod f 2 == 1) = false ∧ (Int.tmod (IntKind.i64.wrap (Int.tdiv f 32)) 2 == 1) = false)) : rmFl f = 0 := by
  obtain ⟨k1, k2, k3, k4⟩ := rfl_is h1 h2
  rw [k1, k2, k3] at h4
  rw [k4, h3, if_neg]
  rcases h4 with h4 | ⟨h4, h5⟩
  · rw [h4]; simp
  · rw [h4, h5]; simp
theorem rmFl_b3 (h3 : decide (0 < Int.tmod (IntKind.i64.wrap (Int.tdiv f 2)) 8) = true) : rmFl f = 1 := by
  rw [(rfl_is h1 h2).2.2.2, h3]
  rfl
theorem rmFl_b4 (h4 : (Int.tmod (IntKind.i64.wrap (Int.tdiv f 16)) 2 == 1) = false) (h5 : (Int.tmod f 2 == 1) = true ∨ (Int.tmod (IntKind.i64.wrap (Int.tdiv f 32)) 2 == 1) = true) : rmFl f = 1 := by
  obtain ⟨k1, k2, k3, k4⟩ := rfl_is h1 h2
  rw [k2] at h4
  rw [k1, k3] at h5
  rw [k4, h4, if_pos]
  rcases h5 with h5 | h5 <;> rw [h5] <;> simp
end
/-! ### Errors -/
section
variable {l : List Ar} {c : Cl} (hm : mayS l = true)
include hm
theorem rm_bad {e : Int} (he : rmE l c = e) (h : (e != 0) = true) : remN l c = errA e ∧ remL l c = l ∧ ((remN l c).er != 0) = true := by
  have e1 : remN l c = errA e := by unfold remN; rw [he, if_pos h]
  exact ⟨e1, by unfold remL; rw [he, if_pos h], by rw [e1]; exact h⟩
theorem rmE_e0 {e : Int} (h : rmE0 c = e) (h2 : (e != 0) = true) : rmE l c = e := by unfold rmE; rw [hm, h, if_neg (by simp), if_pos h2]
theorem rmE_flag (h : rmFl c.f = 1) : rmE l c = 1 := rmE_e0 hm (by unfold rmE0; rw [h]; rfl) rfl
theorem rmE_range (h : rmFl c.f = 0) (h2 : (rangeE c.a c.n != 0) = true) : rmE l c = rangeE c.a c.n := rmE_e0 hm (by unfold rmE0; rw [h, if_neg (by simp), if_pos h2]) h2
theorem rmE_size (h : rmFl c.f = 0) (h2 : (rangeE c.a c.n != 0) = false) (h3 : (sizeE c.w != 0) = true) : rmE l c = sizeE c.w := rmE_e0 hm (by unfold rmE0; rw [h, if_neg (by simp), if_neg (by rw [h2]; simp), if_pos h3]) h3
theorem rmE_dont (h : rmFl c.f = 0) (h2 : (rangeE c.a c.n != 0) = false) (h3 : (sizeE c.w != 0) = false) (h4 : bitB c.f 32 = true) (h5 : (sizeV c.w != IntKind.i64.wrap (rangeHi c.a c.n - rangeLo c.a c.n)) = true) : rmE l c = 1 :=
  rmE_e0 hm (by unfold rmE0; rw [h, if_neg (by simp), if_neg (by rw [h2]; simp), if_neg (by rw [h3]; simp), if_pos]; rw [h4]; exact h5) rfl
theorem rmE0_ok (h : rmFl c.f = 0) (h2 : (rangeE c.a c.n != 0) = false) (h3 : (sizeE c.w != 0) = false) (h4 : bitB c.f 32 = false ∨ (sizeV c.w != IntKind.i64.wrap (rangeHi c.a c.n - rangeLo c.a c.n)) = false) : rmE0 c = 0 := by
  unfold rmE0
  rw [h, if_neg (by simp), if_neg (by rw [h2]; simp), if_neg (by rw [h3]; simp), if_neg]
  rcases h4 with h4 | h4
  · rw [h4]; simp
  · show ¬ (bitB c.f 32 && (sizeV c.w != IntKind.i64.wrap (rangeHi c.a c.n - rangeLo c.a c.n))) = true
    rw [h4]; simp
theorem rmE_none (h : rmE0 c = 0) (h2 : oneB l (rangeLo c.a c.n) (rangeHi c.a c.n) = false) : rmE l c = 7 := by
  unfold rmE
  rw [hm, h, if_neg (by simp), if_neg (by simp), if_pos]
  unfold oneB at h2
  cases hf : foundL l (rangeLo c.a c.n) with
  | false => rfl
  | true =>
    rw [hf, Bool.true_and, decide_eq_false_iff_not] at h2
    rw [Bool.or_eq_true]
    exact .inr (by rw [decide_eq_true_eq]; omega)
theorem rmE_ok (h : rmE0 c = 0) (h2 : oneB l (rangeLo c.a c.n) (rangeHi c.a c.n) = true) : rmE l c = 0 := by
  unfold oneB at h2
  rw [Bool.and_eq_true, decide_eq_true_eq] at h2
  unfold rmE
  rw [hm, h, if_neg (by simp), if_neg (by simp), if_neg]
  rw [h2.1, show decide ((findL l (rangeLo c.a c.n)).e < rangeHi c.a c.n) = false by rw [decide_eq_false_iff_not]; omega]
  simp
end
theorem rm_found {l : List Ar} {c : Cl} (h : rmE l c = 0) : FoundOk l (rmLo c) (rmHi c) := by
  obtain ⟨h1, h2, h3, h4, h5, h6, h7⟩ := rm_ok0 h
  have h7 := of_decide_eq_false h7
  exact ⟨(mayS_rt h1).1, (range_ok h3).1, h6, (by show rangeHi c.a c.n ≤ (findL l (rangeLo c.a c.n)).e; omega)⟩
theorem rm_go {l : List Ar} {c : Cl} (h : rmE l c = 0) : remN l c = remM l c ∧ remL l c = remK l c := by
  unfold remN remL
  rw [h, if_neg (by simp), if_neg (by simp)]
  exact ⟨rfl, rfl⟩
theorem rk_no {l X : List Ar} {c : Cl} {v : Int} (h1 : remN l c = keptN X v) (hn : decide ((24 : Int) < (X.length : Int)) = true) : remN l c = errA 9 ∧ ((remN l c).er != 0) = true := by
  rw [(kept_no (was := l) hn).2] at h1
  exact ⟨h1, by rw [h1]; rfl⟩
theorem rk_yes {l X : List Ar} {c : Cl} {v : Int} (h1 : remN l c = keptN X v) (h2 : remL l c = keptL l X) (hn : decide ((24 : Int) < (X.length : Int)) = false) : remN l c = okA v ∧ ((remN l c).er != 0) = false ∧ X = remL l c := by
  rw [(kept_yes (was := l) hn).2] at h1
  rw [(kept_yes (v := 0) (was := l) hn).1] at h2
  exact ⟨h1, by rw [h1]; rfl, h2.symm⟩
section
variable {l : List Ar} {c : Cl} (h0 : rmE l c = 0)
include h0
theorem rm_sz : SzOk (sizeV c.w) := by
  obtain ⟨h1, h2, h3, h4, _⟩ := rm_ok0 h0
  exact (size_ok h4).1
theorem rm_rg : RgOk (rmLo c) (rmHi c) := (rm_found h0).rg
theorem rm_diff : w64 (rmHi c - rmLo c) = rmHi c - rmLo c := by
  have k := rm_rg h0
  have h1 := k.lo; have h2 := k.hi; have h3 := k.lt
  exact w64_id (by unfold In64; omega)
theorem rm_long : longK (rmO l c).b (rmO l c).o (sizeV c.w) = ((pgT l (rmLo c)).b != 0 && decide (1099511627776 < IntKind.i64.wrap ((pgT l (rmLo c)).o + sizeV c.w))) := by
  have k := rm_found h0
  have hp := (fd_page k).2
  have hf : Fo (rmO l c) := fd_fo k
  have hs := rm_sz h0
  have s1 := hs.lo; have s2 := hs.hi
  unfold pgT
  rw [hp]
  unfold longK
  by_cases hb : (rmO l c).b = 0
  · show ((rmO l c).b != 0 && _) = ((rmO l c).b != 0 && _)
    rw [hb]
    rfl
  · have ho := hf.om hb
    have e1 := hf.lt; have e2 := hf.lo; have e3 := hf.hi
    have w1 : w64 (1099511627776 - sizeV c.w) = 1099511627776 - sizeV c.w := w64_id (by unfold In64; omega)
    have w2 : IntKind.i64.wrap ((rmO l c).o + sizeV c.w) = (rmO l c).o + sizeV c.w := w64_id (by unfold In64; omega)
    show ((rmO l c).b != 0 && decide ((rmO l c).o > w64 (1099511627776 - sizeV c.w))) = ((rmO l c).b != 0 && decide (1099511627776 < IntKind.i64.wrap ((rmO l c).o + sizeV c.w)))
    rw [w1, w2]
    congr 1
    rw [decide_eq_decide]
    omega
theorem mv_fo {p : Int} (hp : RgOk p (p + sizeV c.w)) (hl : longK (rmO l c).b (rmO l c).o (sizeV c.w) = false) : MvOk l (rmLo c) (rmHi c) p (sizeV c.w) := by
  have k := rm_found h0
  have hf : Fo (rmO l c) := fd_fo k
  have hs := rm_sz h0
  have s1 := hs.lo; have s2 := hs.hi
  have h1 := hp.lo; have h2 := hp.hi; have h3 := hp.lt
  have e : w64 (p + sizeV c.w) = p + sizeV c.w := w64_id (by unfold In64; omega)
  refine ⟨k, hp, fo.1 ((formed_iff _).2 ?_)⟩
  show p % 4096 = 0 ∧ w64 (p + sizeV c.w) % 4096 = 0 ∧ 65536 ≤ p ∧ w64 (p + sizeV c.w) ≤ 2097152 ∧ p < w64 (p + sizeV c.w) ∧ 0 ≤ (rmO l c).p ∧ (rmO l c).p ≤ 7 ∧ 0 ≤ (rmO l c).b ∧ (rmO l c).b ≤ 9 ∧ _
  rw [e]
  refine ⟨hp.z, hp.z2, h1, h2, h3, hf.p0, hf.p7, hf.b0, hf.b9, hf.oz, fun hne => ?_⟩
  have hne : (rmO l c).b ≠ 0 := hne
  have ho := hf.om hne
  unfold longK at hl
  rw [show ((rmO l c).b != 0) = true by simpa using hne, Bool.true_and, decide_eq_false_iff_not, w64_id (show In64 (1099511627776 - sizeV c.w) by unfold In64; omega)] at hl
  refine ⟨ho.1, ho.2.1, ?_⟩
  show (rmO l c).o ≤ 1099511627776 - (w64 (p + sizeV c.w) - p)
  rw [e]
  omega
theorem rm_dont (hd : bitB c.f 32 = true) : sizeV c.w = rmHi c - rmLo c := by
  have h := (rm_ok0 h0).2.2.2.2.1
  rw [hd, Bool.true_and] at h
  rw [← rm_diff h0]
  exact bne_no h
theorem long_dont (hd : bitB c.f 32 = true) : longK (rmO l c).b (rmO l c).o (sizeV c.w) = false := by
  have k := rm_found h0
  have hf : Fo (rmO l c) := fd_fo k
  have hs := rm_sz h0
  have s1 := hs.lo; have s2 := hs.hi
  have hz := rm_dont h0 hd
  unfold longK
  by_cases hb : (rmO l c).b = 0
  · rw [hb]; rfl
  · have ho := hf.om hb
    have hse : (rmO l c).s = rmLo c ∧ (rmO l c).e = rmHi c := by unfold rmO; rw [fd_part k]; exact ⟨rfl, rfl⟩
    have o1 : (rmO l c).s = rmLo c := hse.1
    have o2 : (rmO l c).e = rmHi c := hse.2
    rw [w64_id (show In64 (1099511627776 - sizeV c.w) by unfold In64; omega), show decide ((rmO l c).o > 1099511627776 - sizeV c.w) = false by rw [decide_eq_false_iff_not]; omega, Bool.and_false]
end
theorem place0 {l : List Ar} (hm : mayS l = true) {n : Int} (hn : SzOk n) : (decide (chooseL l 65536 2097152 n true < 0) = true → placeE l 0 n 0 = 5) ∧ (decide (chooseL l 65536 2097152 n true < 0) = false → placeE l 0 n 0 = 0 ∧ placeV l 0 n 0 = chooseL l 65536 2097152 n true ∧ RgOk (placeV l 0 n 0) (placeV l 0 n 0 + n)) := by
  obtain ⟨n1, n2, n3⟩ := hn
  have h64 : In64 n := by unfold In64; omega
  have e : (Int.tmod (IntKind.i64.wrap (Int.tdiv 0 8)) 2 == 0) = true := by decide +kernel
  have e2 : (Int.tmod 0 2 == 1) = false := by decide +kernel
  refine ⟨fun h => ?_, fun h => ?_⟩
  · have := pl5 (l := l) (a := 0) (n := n) (f := 0) hm h64 ⟨by decide, by decide⟩ e2 (.inl rfl) (by rw [e]; exact h)
    exact this.2.symm
  · have := pl6 (l := l) (a := 0) (n := n) (f := 0) hm h64 ⟨by decide, by decide⟩ e2 (.inl rfl) (by rw [e]; exact h)
    rw [e] at this
    have hp := this.2.symm
    obtain ⟨r1, r2, r3⟩ := place_rng hm ⟨n1, n2, n3⟩ (by unfold In64; omega) hp
    exact ⟨hp, this.1.symm, ⟨r1, r2, by omega, r3, by omega⟩⟩
theorem grow_is {l : List Ar} {c : Cl} (h0 : rmE l c = 0) (hgt : ¬ sizeV c.w ≤ rmHi c - rmLo c) : fitsL l (rmHi c) (w64 (sizeV c.w - w64 (rmHi c - rmLo c))) = freeS (ofL l) (IntKind.i64.wrap (Int.tdiv (rmHi c) 4096)) (IntKind.i64.wrap (Int.tdiv (IntKind.i64.wrap (IntKind.i64.wrap (sizeV c.w - rmHi c) + rmLo c)) 4096)) ∧
    w64 (sizeV c.w - w64 (rmHi c - rmLo c)) = sizeV c.w - (rmHi c - rmLo c) := by
  have k := rm_rg h0
  have h1 := k.lo; have h2 := k.hi; have h3 := k.lt; have h4 := k.z; have h5 := k.z2
  have hs := rm_sz h0
  have s1 := hs.lo; have s2 := hs.hi; have s3 := hs.z
  rw [rm_diff h0]
  have e1 : w64 (sizeV c.w - (rmHi c - rmLo c)) = sizeV c.w - (rmHi c - rmLo c) := w64_id (by unfold In64; omega)
  have e2 : IntKind.i64.wrap (sizeV c.w - rmHi c) = sizeV c.w - rmHi c := w64_id (by unfold In64; omega)
  have e3 : IntKind.i64.wrap (sizeV c.w - rmHi c + rmLo c) = sizeV c.w - rmHi c + rmLo c := w64_id (by unfold In64; omega)
  have e4 : IntKind.i64.wrap (Int.tdiv (rmHi c) 4096) = rmHi c / 4096 := by rw [Int.tdiv_eq_ediv_of_nonneg (by omega)]; exact w64_id (by unfold In64; omega)
  have e5 : IntKind.i64.wrap (Int.tdiv (sizeV c.w - rmHi c + rmLo c) 4096) = (sizeV c.w - rmHi c + rmLo c) / 4096 := by rw [Int.tdiv_eq_ediv_of_nonneg (by omega)]; exact w64_id (by unfold In64; omega)
  refine ⟨?_, e1⟩
  rw [e1, e2, e3, e4, e5, free_fits2 (rm_found h0).rt (by omega) (by omega) (by omega) (by omega)]
  congr 1 <;> omega
end Go.Proofs.YtbcicjmepojlnaaGreat.Eng
/- Remap: the program's leaves; no condition but those typed. -/
namespace Go.Proofs.YtbcicjmepojlnaaGreat.Eng
open Go Go.RowKit
set_option autoImplicit false
set_option linter.unusedSimpArgs false
set_option linter.unusedVariables false
set_option linter.unusedSectionVars false
theorem re_0 {l : List Ar} {c : Cl} (h : (rmE l c != 0) = true) : remN l c = errA (rmE l c) ∧ remL l c = l := by
  unfold remN remL
  rw [if_pos h, if_pos h]
  exact ⟨rfl, rfl⟩
abbrev rdZ (l : List Ar) (c : Cl) : Ar := ⟨(rdO l c ⟨0, 0, 0, false, 0, 0⟩).s, (rdO l c ⟨0, 0, 0, false, 0, 0⟩).e, (rdO l c ⟨0, 0, 0, false, 0, 0⟩).p, (rdO l c ⟨0, 0, 0, false, 0, 0⟩).sh, (rdO l c ⟨0, 0, 0, false, 0, 0⟩).b, (rdO l c ⟨0, 0, 0, false, 0, 0⟩).o⟩
theorem rdZ_eq {l : List Ar} {c : Cl} (h : rmE l c = 0) : rdZ l c = rmO l c := by
  have e := (rd_ok h 0 ⟨0, 0, 0, false, 0, 0⟩).2.2.2.2
  show rdO l c ⟨0, 0, 0, false, 0, 0⟩ = _
  exact e
section
variable {l : List Ar} {c : Cl} (h : (rmE l c != 0) = false)
include h
theorem re_1 (b : bitB c.f 1 = true) : remN l c = kfN l c (rdLo l c 0) (rdHi l c 0) (rdSz l c 0) (rdZ l c) ∧ remL l c = kfL l c (rdLo l c 0) (rdHi l c 0) (rdSz l c 0) (rdZ l c) := by
  have h0 := bne_no h
  obtain ⟨e1, e2, e3, e4, e5⟩ := rd_ok h0 0 ⟨0, 0, 0, false, 0, 0⟩
  obtain ⟨q1, q2⟩ := rm_go h0
  rw [rdZ_eq h0, e1, e2, e3, q1, q2]
  unfold remM remK
  rw [if_pos b, if_pos b]
  exact ⟨rfl, rfl⟩
theorem re_2 (b : bitB c.f 1 = false) (b2 : bitB c.f 32 = true) : remN l c = kaN l c.f (rdLo l c 0) (rdHi l c 0) (rdSz l c 0) (rdZ l c) ∧ remL l c = kaL l c.f (rdLo l c 0) (rdHi l c 0) (rdSz l c 0) (rdZ l c) := by
  have h0 := bne_no h
  obtain ⟨e1, e2, e3, e4, e5⟩ := rd_ok h0 0 ⟨0, 0, 0, false, 0, 0⟩
  obtain ⟨q1, q2⟩ := rm_go h0
  rw [rdZ_eq h0, e1, e2, e3, q1, q2]
  unfold remM remK
  rw [b]
  simp only [Bool.false_eq_true, if_false]
  rw [if_pos b2, if_pos b2]
  exact ⟨rfl, rfl⟩
theorem re_3 (b : bitB c.f 1 = false) (b2 : bitB c.f 32 = false) (b3 : decide (rdSz l c 0 ≤ IntKind.i64.wrap (rdHi l c 0 - rdLo l c 0)) = true) : remN l c = keptN (cutL l (IntKind.i64.wrap (rdLo l c 0 + rdSz l c 0)) (rdHi l c 0)) (rdLo l c 0) ∧ remL l c = keptL l (cutL l (IntKind.i64.wrap (rdLo l c 0 + rdSz l c 0)) (rdHi l c 0)) := by
  have h0 := bne_no h
  obtain ⟨e1, e2, e3, e4, e5⟩ := rd_ok h0 0 ⟨0, 0, 0, false, 0, 0⟩
  obtain ⟨q1, q2⟩ := rm_go h0
  rw [e1, e2, e3] at b3 ⊢
  rw [q1, q2]
  unfold remM remK
  rw [b, b2]
  simp only [Bool.false_eq_true, if_false]
  rw [if_pos b3, if_pos b3]
  exact ⟨rfl, rfl⟩
theorem re_4 (b : bitB c.f 1 = false) (b2 : bitB c.f 32 = false) (b3 : decide (rdSz l c 0 ≤ IntKind.i64.wrap (rdHi l c 0 - rdLo l c 0)) = false) : remN l c = kgN l c.f (rdLo l c 0) (rdHi l c 0) (rdSz l c 0) (rdW l c ⟨0, 0, 0, false, 0, 0⟩).e (rdZ l c) ∧ remL l c = kgL l c.f (rdLo l c 0) (rdHi l c 0) (rdSz l c 0) (rdW l c ⟨0, 0, 0, false, 0, 0⟩).e (rdZ l c) := by
  have h0 := bne_no h
  obtain ⟨e1, e2, e3, e4, e5⟩ := rd_ok h0 0 ⟨0, 0, 0, false, 0, 0⟩
  obtain ⟨q1, q2⟩ := rm_go h0
  rw [rdZ_eq h0, e4]
  rw [e1, e2, e3] at b3 ⊢
  rw [q1, q2]
  unfold remM remK
  rw [b, b2]
  simp only [Bool.false_eq_true, if_false]
  rw [if_neg (by rw [b3]; simp), if_neg (by rw [b3]; simp)]
  exact ⟨rfl, rfl⟩
end
end Go.Proofs.YtbcicjmepojlnaaGreat.Eng
