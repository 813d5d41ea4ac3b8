/- When an area goes on in another one, by their pages' attributes; the join's pages; no condition but those typed. -/
import Derived.Test.YtjlgeoaomegbmaaRef06
namespace Go.Proofs.Ytjlgeoaomegbmaa.Eng
open Go Go.RowKit
set_option autoImplicit false

def eqT (x y : At) : Bool := x.p == y.p && (x.sh == y.sh && (x.b == y.b && (x.o == y.o && true)))
theorem eqT_iff (x y : At) : eqT x y = true ↔ x = y := by
  cases x; cases y
  simp [eqT]
theorem eqT_self (x : At) : eqT x x = true := (eqT_iff x x).2 rfl
theorem w_div {n : Int} (h : 0 ≤ n ∧ n ≤ 2097152) : w64 (Int.tdiv n 4096) = n / 4096 := by
  rw [tdiv_pos h.1]; exact w64_id (by unfold In64; omega)
/-- A formed area's page's attributes, plainly. -/
theorem refAttr_in {a : Ar} (h : formed a = true) {q : Int} (h1 : a.s / 4096 ≤ q) (h2 : q < a.e / 4096) :
    refHas a q = true ∧ refAttr a q = ⟨a.p, a.sh, a.b, if a.b = 0 then 0 else a.o + 4096 * (q - a.s / 4096)⟩ := by
  have hf := (formed_iff a).1 h
  have e2 : w64 (Int.tdiv a.s 4096) = a.s / 4096 := w_div (by omega)
  have e3 : w64 (Int.tdiv a.e 4096) = a.e / 4096 := w_div (by omega)
  have hr : refHas a q = true := by
    unfold refHas
    rw [e2, e3]
    have d1 : decide (q < a.s / 4096) = false := by simp; omega
    have d2 : decide (q ≥ a.e / 4096) = false := by simp; omega
    rw [d1, d2]
    rfl
  refine ⟨hr, ?_⟩
  unfold refAttr
  rw [if_pos hr, e2]
  by_cases hb : a.b = 0
  · rw [if_neg (by simp; omega), if_pos hb]
  · have := hf.2.2.2.2.2.2.2.2.2.2 hb
    rw [if_pos (by simp; omega), if_neg hb, w64_id (n := q - a.s / 4096) (by unfold In64; omega), w64_id (n := 4096 * (q - a.s / 4096)) (by unfold In64; omega), w64_id (by unfold In64; omega)]
theorem refHas_iff {a : Ar} (h : formed a = true) (q : Int) : refHas a q = true ↔ a.s / 4096 ≤ q ∧ q < a.e / 4096 := by
  have hf := (formed_iff a).1 h
  constructor
  · intro hr
    unfold refHas at hr
    rw [w_div (n := a.s) (by omega), w_div (n := a.e) (by omega)] at hr
    split at hr
    · cases hr
    · rename_i hn
      simp only [Bool.or_eq_true, decide_eq_true_eq] at hn
      omega
  · intro hq
    exact (refAttr_in h hq.1 hq.2).1
theorem after_iff {x y : At} : afterA x y = true ↔ x.p = y.p ∧ x.sh = y.sh ∧ x.b = y.b ∧ (if x.b > 0 then w64 (x.o + 4096) else x.o) = y.o := by
  unfold afterA
  simp only [Bool.and_eq_true, beq_iff_eq, decide_eq_true_eq, and_true]
theorem goes_iff (a b : Ar) : goesA a b = true ↔ formed a = true ∧ formed b = true ∧ a.e = b.s ∧ a.p = b.p ∧ a.sh = b.sh ∧ a.b = b.b ∧ b.o = (if a.b = 0 then 0 else a.o + a.e - a.s) := by
  unfold goesA
  simp only [Bool.and_eq_true, beq_iff_eq]
  constructor
  · rintro ⟨⟨⟨⟨⟨⟨h1, h2⟩, h3⟩, h4⟩, h5⟩, h6⟩, h7⟩
    have hf := (formed_iff a).1 h1
    rw [offA_eq h1 (by omega) (by omega)] at h7
    exact ⟨h1, h2, h3, h4, h5, h6, h7⟩
  · rintro ⟨h1, h2, h3, h4, h5, h6, h7⟩
    have hf := (formed_iff a).1 h1
    refine ⟨⟨⟨⟨⟨⟨h1, h2⟩, h3⟩, h4⟩, h5⟩, h6⟩, ?_⟩
    rw [offA_eq h1 (by omega) (by omega)]
    exact h7
/-- As the reference has it. -/
theorem goes_ref (a b : Ar) : goesA a b = (formed a && formed b && (a.e == b.s) && afterA (refAttr a (w64 (w64 (Int.tdiv a.e 4096) - 1))) (refAttr b (w64 (Int.tdiv b.s 4096)))) := by
  rw [Bool.eq_iff_iff, goes_iff]
  simp only [Bool.and_eq_true, beq_iff_eq]
  by_cases ha0 : formed a = false
  · simp [ha0]
  have ha : formed a = true := by simpa using ha0
  by_cases hb0 : formed b = false
  · simp [hb0]
  have hb : formed b = true := by simpa using hb0
  have fa := (formed_iff a).1 ha
  have fb := (formed_iff b).1 hb
  rw [w_div (n := a.e) (by omega), w_div (n := b.s) (by omega), w64_id (n := a.e / 4096 - 1) (by unfold In64; omega), (refAttr_in ha (q := a.e / 4096 - 1) (by omega) (by omega)).2, (refAttr_in hb (q := b.s / 4096) (by omega) (by omega)).2, after_iff]
  simp only [ha, hb, true_and]
  have hmul : 4096 * (a.e / 4096 - 1 - a.s / 4096) = a.e - 4096 - a.s := by omega
  have hz : 4096 * (b.s / 4096 - b.s / 4096) = 0 := by omega
  rw [hmul, hz]
  by_cases h0 : a.b = 0
  · rw [if_pos h0, if_neg (by omega), if_pos h0]
    have := fb.2.2.2.2.2.2.2.2.2.1
    constructor
    · rintro ⟨h1, h2, h3, h4, h5⟩
      refine ⟨h1, h2, h3, h4, ?_⟩
      rw [if_pos (by omega)]
    · rintro ⟨h1, h2, h3, h4, h5⟩
      exact ⟨h1, h2, h3, h4, this (by omega)⟩
  · have hoa := fa.2.2.2.2.2.2.2.2.2.2 h0
    rw [if_neg h0, if_pos (by omega), if_neg h0, w64_id (by unfold In64; omega)]
    constructor
    · rintro ⟨h1, h2, h3, h4, h5⟩
      refine ⟨h1, h2, h3, h4, ?_⟩
      rw [if_neg (by omega)]
      omega
    · rintro ⟨h1, h2, h3, h4, h5⟩
      rw [if_neg (by omega)] at h5
      exact ⟨h1, h2, h3, h4, by omega⟩
theorem joins_goes {a b : Ar} (h : goesA a b = true) : joinsA a b = true ∧ formed ⟨a.s, b.e, a.p, a.sh, a.b, a.o⟩ = true ∧ joinA a b = ⟨a.s, b.e, a.p, a.sh, a.b, a.o⟩ := by
  obtain ⟨h1, h2, h3, h4, h5, h6, h7⟩ := (goes_iff a b).1 h
  have fa := (formed_iff a).1 h1
  have fb := (formed_iff b).1 h2
  have hf : formed ⟨a.s, b.e, a.p, a.sh, a.b, a.o⟩ = true := by
    rw [formed_iff]
    simp only
    refine ⟨fa.1, fb.2.1, fa.2.2.1, fb.2.2.2.1, by omega, fa.2.2.2.2.2.1, fa.2.2.2.2.2.2.1, fa.2.2.2.2.2.2.2.1, fa.2.2.2.2.2.2.2.2.1, fa.2.2.2.2.2.2.2.2.2.1, fun hb => ?_⟩
    have g1 := fa.2.2.2.2.2.2.2.2.2.2 hb
    have g2 := fb.2.2.2.2.2.2.2.2.2.2 (by omega)
    rw [if_neg hb] at h7
    omega
  have hj : joinsA a b = true := by
    unfold joinsA
    rw [h, hf]
    rfl
  exact ⟨hj, hf, by unfold joinA; rw [if_pos hj]⟩
theorem joins_eq (a b : Ar) : joinsA a b = goesA a b := by
  cases h : goesA a b with
  | true => exact (joins_goes h).1
  | false => unfold joinsA; rw [h]; rfl
theorem join_no {a b : Ar} (h : goesA a b = false) : joinA a b = noAr := by
  unfold joinA
  rw [if_neg (by rw [joins_eq, h]; simp)]
/-- The join's pages are both's. -/
theorem join_pages {a b : Ar} (h : goesA a b = true) {q : Int} (h1 : a.s / 4096 ≤ q) (h2 : q < b.e / 4096) :
    refHas (joinA a b) q = true ∧ (refHas a q = true → refAttr (joinA a b) q = refAttr a q) ∧ (refHas b q = true → refAttr (joinA a b) q = refAttr b q) := by
  obtain ⟨_, hf, hj⟩ := joins_goes h
  obtain ⟨g1, g2, g3, g4, g5, g6, g7⟩ := (goes_iff a b).1 h
  rw [hj]
  have fa := (formed_iff a).1 g1
  have fb := (formed_iff b).1 g2
  obtain ⟨r1, r2⟩ := refAttr_in hf (q := q) h1 h2
  refine ⟨r1, fun ha => ?_, fun hb => ?_⟩
  · obtain ⟨q1, q2⟩ := (refHas_iff g1 q).1 ha
    rw [r2, (refAttr_in g1 q1 q2).2]
  · obtain ⟨q1, q2⟩ := (refHas_iff g2 q).1 hb
    rw [r2, (refAttr_in g2 q1 q2).2]
    simp only [g4, g5, g6, At.mk.injEq, true_and]
    rw [g7]
    by_cases hb0 : b.b = 0
    · rw [if_pos hb0, if_pos hb0]
    · rw [if_neg hb0, if_neg hb0, if_neg (by omega)]
      omega
def pG (a : Ar) (i : Nat) : Int := a.s / 4096 + i
theorem goes_loop {a b : Ar} (h : goesA a b = true) (i : Nat) (hi : pG a i < w64 (Int.tdiv b.e 4096)) : w64 (pG a i + 1) = pG a (i + 1) ∧ i < 512 ∧ a.s / 4096 ≤ pG a i ∧ pG a i < b.e / 4096 := by
  obtain ⟨g1, g2, g3, _⟩ := (goes_iff a b).1 h
  have fa := (formed_iff a).1 g1
  have fb := (formed_iff b).1 g2
  rw [w_div (by omega)] at hi
  unfold pG at hi ⊢
  rw [w64_id (by unfold In64; omega)]
  omega
theorem refAttr_eta (a : Ar) (q : Int) : (⟨(refAttr a q).p, (refAttr a q).sh, (refAttr a q).b, (refAttr a q).o⟩ : At) = refAttr a q := by generalize refAttr a q = z; rfl
theorem joinA_eta (a b : Ar) : (⟨(joinA a b).s, (joinA a b).e, (joinA a b).p, (joinA a b).sh, (joinA a b).b, (joinA a b).o⟩ : Ar) = joinA a b := by generalize joinA a b = z; rfl
theorem partA_eta (a : Ar) (lo hi : Int) : (⟨(partA a lo hi).s, (partA a lo hi).e, (partA a lo hi).p, (partA a lo hi).sh, (partA a lo hi).b, (partA a lo hi).o⟩ : Ar) = partA a lo hi := by generalize partA a lo hi = z; rfl
theorem goes_init {a b : Ar} (h : goesA a b = true) : IntKind.i64.wrap (Int.tdiv a.s 4096) = pG a 0 := by
  obtain ⟨g1, _⟩ := (goes_iff a b).1 h
  have fa := (formed_iff a).1 g1
  have := w_div (n := a.s) (by omega)
  unfold pG
  unfold w64 at this
  omega
end Go.Proofs.Ytjlgeoaomegbmaa.Eng
