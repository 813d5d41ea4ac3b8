/- Texts of this work, laid together: symbolic execution over the model, contracts of the program's functions, what they come to; conditions: as each says. -/
import Derived.Test.YtbcicjmepojlnaaPkZAT
import Derived.Test.YtbcicjmepojlnaaPkZAU
import Derived.Test.YtbcicjmepojlnaaPkZAV
import Derived.Test.YtbcicjmepojlnaaPkZAW
import Derived.Test.YtbcicjmepojlnaaPkZAX
/- What the laws of layer 7 come to, in plain words; no condition but those typed. -/
namespace Go.Proofs.Ytbcicjmepojlnaa.Eng
open Go Go.RowKit
set_option autoImplicit false
set_option linter.unusedSimpArgs false
set_option linter.unusedVariables false
theorem rt_len {l : List Ar} (h : Rt l) : l.length ≤ 496 := by
  have hs : GoodS (ofL l) := ⟨ofL_len l, fun q hq hi => by
    by_cases he : ∃ a ∈ l, inA a (4096 * q)
    · obtain ⟨a, ha, hin⟩ := he
      have fa := fo.1 (h.1 a ha)
      have e : nthP (ofL l) q = pgOf a q := paint_yes of_paints hq l noS h.ok noS_len a ha hin
      rw [e]
      have := fa.lo; have := hin.1
      exact ⟨by omega, ext_good fa hin (by omega)⟩
    · have e : nthP (ofL l) q = nthP noS q := (paint_not of_paints hq l noS h.1 noS_len fun a ha hin => he ⟨a, ha, hin⟩).1
      rw [e, noS_get] at hi
      cases hi⟩
  obtain ⟨h1, h2⟩ := listS_spec hs
  have : listS (ofL l) = l := rt_ext h1 h fun x t hx => (h2 x t hx).trans ((of_spec h.ok).1 x t hx)
  rw [← this]
  exact listS_le _
theorem around_bd (l : List Ar) (hl : l.length ≤ 496) (lo hi : Int) : (aroundA l lo hi).length ≤ 496 ∧ (aroundB l lo hi).length ≤ 496 := by
  unfold aroundA aroundB
  have := ahead_le l (floorA lo)
  have := behind_le l (toI hi)
  split
  · exact ⟨hl, Nat.zero_le _⟩
  · omega
theorem cut_bd (l : List Ar) (lo hi : Int) : (cutL l lo hi).length ≤ 2000 := by
  unfold cutL
  split
  · rename_i h
    have := around_bd l (rt_len (rt_iff.1 h)) lo hi
    rw [List.length_append]
    omega
  · exact Nat.zero_le _
theorem put_bd (l : List Ar) (a : Ar) : (putL l a).length ≤ 2000 := by
  unfold putL
  split
  · rename_i h
    rw [Bool.and_eq_true] at h
    have := around_bd l (rt_len (rt_iff.1 h.1)) a.s a.e
    have := joined_le (aroundA l a.s a.e ++ [a] ++ aroundB l a.s a.e)
    rw [List.length_append, List.length_append] at this
    have e : [a].length = 1 := rfl
    omega
  · exact Nat.zero_le _
theorem set_bd (l : List Ar) (lo hi p : Int) : (setL l lo hi p).length ≤ 2000 := by
  unfold setL
  split
  · exact Nat.zero_le _
  · rename_i h
    have hr : rightL l = true := by
      cases hh : rightL l with
      | true => rfl
      | false => rw [hh] at h; exact (h rfl).elim
    have hl := rt_len (rt_iff.1 hr)
    have := around_bd l hl lo hi
    have := joined_le (aroundA l lo hi ++ midL l lo hi p ++ aroundB l lo hi)
    have hm : (midL l lo hi p).length ≤ 496 := by
      unfold midL
      split
      · rw [List.length_map]
        have := within_le l lo hi
        omega
      · exact Nat.zero_le _
    rw [List.length_append, List.length_append] at this
    omega
theorem bd {n m : Nat} (h : n ≤ 2000) (hm : 2000 ≤ m) : n ≤ m := Nat.le_trans h hm
end Go.Proofs.Ytbcicjmepojlnaa.Eng
/- Covered, found, faults page by page; the reference's protecting; no condition but those typed. -/
namespace Go.Proofs.Ytbcicjmepojlnaa.Eng
open Go Go.RowKit
set_option autoImplicit false
set_option linter.unusedSimpArgs false
set_option linter.unusedVariables false
/-! ### Pages of right lists -/
theorem of_has {l : List Ar} (hl : Ok l) {q : Nat} (h0 : 16 ≤ q) (hq : q < 512) : (nthP (ofL l) q).is = true → Has l (4096 * q) (nthP (ofL l) q).t := fun h =>
  ((of_spec hl).1 _ _ (by omega)).1 ⟨q, rfl, h0, hq, h, rfl⟩
theorem has_of {l : List Ar} (hl : Ok l) {q : Nat} {t : At} (h : Has l (4096 * q) t) : (nthP (ofL l) q).is = true ∧ (nthP (ofL l) q).t = t := by
  obtain ⟨q', he, _, _, h1, h2⟩ := ((of_spec hl).1 _ _ (by omega)).2 h
  obtain rfl : q = q' := by omega
  exact ⟨h1, h2⟩
theorem idx_spec {l : List Ar} (hl : Fm l) (x : Int) : (idxI l x ≥ 0 ↔ ∃ a ∈ l, inA a x) ∧ (idxI l x ≥ 0 → idxL l x < l.length ∧ inA (nthA l (idxL l x)) x) := by
  have hh : ∀ i, i < l.length → (hasA (nthA l i) x = true ↔ inA (nthA l i) x) := fun i hi => by
    unfold hasA inA
    rw [hl _ (nthA_mem hi)]
    simp
  by_cases hex : ∃ i, i < l.length ∧ hasA (nthA l i) x = true
  · obtain ⟨i, hi, hy⟩ := hex
    have hsome : ((List.range l.length).find? fun i => hasA (nthA l i) x).isSome = true := by
      rw [List.find?_isSome]
      exact ⟨i, List.mem_range.2 hi, hy⟩
    obtain ⟨j, hj⟩ := Option.isSome_iff_exists.1 hsome
    have hj2 := List.find?_some hj
    have hj3 := List.mem_range.1 (List.mem_of_find?_eq_some hj)
    have e : idxL l x = j := by unfold idxL; rw [hj]; rfl
    have e2 : idxI l x = (j : Int) := by unfold idxI; rw [e, if_pos (by simpa using hj3)]
    rw [e2, e]
    have hin := (hh j hj3).1 hj2
    exact ⟨⟨fun _ => ⟨_, nthA_mem hj3, hin⟩, fun _ => by omega⟩, fun _ => ⟨hj3, hin⟩⟩
  · have hn : ∀ j : Nat, j < l.length → hasA (nthA l j) x = false := fun j hj => by
      cases hb : hasA (nthA l j) x
      · rfl
      · exact absurd ⟨j, hj, hb⟩ hex
    rw [idx_no hn]
    refine ⟨⟨fun h => by omega, ?_⟩, fun h => by omega⟩
    rintro ⟨a, ha, hin⟩
    obtain ⟨i, hi, rfl⟩ := List.getElem_of_mem ha
    rw [← nthA_elem hi] at hin
    have := (hh i hi).2 hin
    rw [hn i hi] at this
    cases this
theorem found_spec {l : List Ar} (hl : Rt l) (x : Int) : (foundL l x = true ↔ ∃ a ∈ l, inA a x) ∧ (foundL l x = true → findL l x ∈ l ∧ inA (findL l x) x) := by
  have hr : rightL l = true := of_rt hl
  obtain ⟨h1, h2⟩ := idx_spec hl.1 x
  have e : foundL l x = true ↔ idxI l x ≥ 0 := by
    unfold foundL
    rw [hr, Bool.and_true, decide_eq_true_eq]
  refine ⟨e.trans h1, fun hf => ?_⟩
  obtain ⟨h3, h4⟩ := h2 (e.1 hf)
  unfold findL
  rw [if_pos hf]
  exact ⟨nthA_mem h3, h4⟩
/-! ### A fault's reads, its bits -/
theorem mayS_rt {l : List Ar} (h : mayS l = true) : Rt l ∧ l.length ≤ 24 := by
  unfold mayS at h
  rw [Bool.and_eq_true, decide_eq_true_eq] at h
  exact ⟨rt_of h.1, by omega⟩
theorem rt_mayS {l : List Ar} (h : Rt l) (h2 : l.length ≤ 24) : mayS l = true := by
  unfold mayS
  rw [of_rt h]
  simp
  omega
end Go.Proofs.Ytbcicjmepojlnaa.Eng
/- The reference's protecting, page by page; no condition but those typed. -/
namespace Go.Proofs.Ytbcicjmepojlnaa.Eng
open Go Go.RowKit
set_option autoImplicit false
set_option linter.unusedSimpArgs false
set_option linter.unusedVariables false
/-! ### Reads and writes -/
/-! ### What comes about -/
theorem of_low {l : List Ar} (hl : Fm l) {q : Nat} (hq : q < 512) (h : q < 16) (hi : (nthP (ofL l) q).is = true) : False := by
  have e : nthP (ofL l) q = nthP noS q := (paint_not of_paints hq l noS hl noS_len (fun a ha hin => by have := (fo.1 (hl a ha)).lo; have := hin.1; omega)).1
  rw [e, noS_get] at hi
  cases hi
theorem good_of {l : List Ar} (hl : Rt l) : GoodS (ofL l) := ⟨ofL_len l, fun q hq hi => by
  by_cases h16 : 16 ≤ q
  · obtain ⟨a, ha, h1, h2⟩ := of_has hl.ok h16 hq hi
    rw [← h2]
    exact ⟨h16, ext_good (fo.1 (hl.1 a ha)) h1 (by omega)⟩
  · exact (of_low hl.1 hq (by omega) hi).elim⟩
/-! ### What is asked wrongly -/
theorem pro_bad {l : List Ar} {c : Cl} {e : Int} (h : wrE l c = e) (he : e ≠ 0) : protN l c = errA e ∧ protL l c = l ∧ ((protN l c).er != 0) = true := by
  have h2 : (wrE l c != 0) = true := by rw [h]; simpa using he
  have h3 : protN l c = errA e := by unfold protN; rw [if_pos h2, h]
  refine ⟨h3, by unfold protL; rw [if_pos h2], ?_⟩
  rw [h3]
  simpa [errA] using he
theorem pro_ok {l : List Ar} {c : Cl} (hm : mayS l = true) (h : wrE l c = 0) : protN l c = keptN (setL l (rangeLo c.a c.n) (rangeHi c.a c.n) c.p) 0 ∧ protL l c = keptL l (setL l (rangeLo c.a c.n) (rangeHi c.a c.n) c.p) := by
  have h2 : ¬ (wrE l c != 0) = true := by rw [h]; simp
  have h3 : protS l c = setL l (rangeLo c.a c.n) (rangeHi c.a c.n) c.p := by
    unfold protS wrX
    rw [if_neg (by rw [hm]; simp), if_neg (by rw [hm]; simp)]
  exact ⟨by unfold protN; rw [if_neg h2, h3], by unfold protL; rw [if_neg h2, h3]⟩
theorem kept_no {was now : List Ar} {v : Int} (h : decide ((24 : Int) < (now.length : Int)) = true) : keptL was now = was ∧ keptN now v = errA 9 := ⟨if_pos h, if_pos h⟩
theorem kept_yes {was now : List Ar} {v : Int} (h : decide ((24 : Int) < (now.length : Int)) = false) : keptL was now = now ∧ keptN now v = okA v := ⟨if_neg (by rw [h]; simp), if_neg (by rw [h]; simp)⟩
section
variable {l : List Ar} {c : Cl} {q0 q1 k : Nat}
end
end Go.Proofs.Ytbcicjmepojlnaa.Eng
/- Contracts of functions (printed by genx.py of this work): what each hands back; condition: as its 'hside' says. -/
namespace Go.Proofs.Ytbcicjmepojlnaa.Eng
open Go Go.RowKit
set_option linter.unusedVariables false
set_option linter.unusedSimpArgs false
end Go.Proofs.Ytbcicjmepojlnaa.Eng
/- What the laws of layer 11 come to, in plain words; no condition but those typed. -/
namespace Go.Proofs.Ytbcicjmepojlnaa.Eng
open Go Go.RowKit
set_option autoImplicit false
set_option linter.unusedSimpArgs false
set_option linter.unusedVariables false
theorem pro_stay {l : List Ar} {c : Cl} (h : ((protN l c).er != 0) = true) : protL l c = l := by
  unfold protN at h
  unfold protL
  split
  · rfl
  · rename_i h1
    rw [if_neg h1] at h
    unfold keptN at h
    unfold keptL
    split
    · rfl
    · rename_i h2
      rw [if_neg h2] at h
      cases h
theorem eqN_cells (x : An) : (x.er == x.er && (x.v == x.v && (x.t.p == x.t.p && (x.t.sh == x.t.sh && (x.t.b == x.t.b && (x.t.o == x.t.o && true)))))) = true := eqN_self x
/-! ### A protected list -/
theorem protE_ok {p : Int} (h0 : 0 ≤ p) (h7 : p ≤ 7) : protE p = 0 := by
  unfold protE
  rw [if_neg]
  simp
  omega
theorem protE_no {p : Int} (h : ¬ (0 ≤ p ∧ p ≤ 7)) : protE p = 1 := by
  unfold protE
  rw [if_pos]
  simp
  omega
theorem wr_iff {l : List Ar} {c : Cl} (hm : mayS l = true) : wrE l c = 0 ↔ rangeE c.a c.n = 0 ∧ (0 ≤ c.p ∧ c.p ≤ 7) ∧ coveredL l (rangeLo c.a c.n) (rangeHi c.a c.n) = true := by
  unfold wrE
  rw [if_neg (by rw [hm]; simp)]
  by_cases hr : rangeE c.a c.n = 0
  · rw [if_pos (by rw [hr]; rfl)]
    by_cases hp : 0 ≤ c.p ∧ c.p ≤ 7
    · rw [if_pos (by rw [protE_ok hp.1 hp.2]; rfl), protE_ok hp.1 hp.2]
      split
      · rename_i h; exact ⟨fun _ => ⟨hr, hp, h⟩, fun _ => rfl⟩
      · rename_i h; exact ⟨fun h2 => by omega, fun h2 => absurd h2.2.2 h⟩
    · rw [if_neg (by rw [protE_no hp]; simp), protE_no hp]
      exact ⟨fun h2 => by omega, fun h2 => absurd h2.2.1 hp⟩
  · rw [if_neg (by simpa using hr)]
    exact ⟨fun h => absurd h hr, fun h => h.1⟩
theorem pro_yes {l : List Ar} {c : Cl} (hm : mayS l = true) (h : (protN l c).er = 0) : rangeE c.a c.n = 0 ∧ (0 ≤ c.p ∧ c.p ≤ 7) ∧ coveredL l (rangeLo c.a c.n) (rangeHi c.a c.n) = true ∧ protL l c = setL l (rangeLo c.a c.n) (rangeHi c.a c.n) c.p ∧ (setL l (rangeLo c.a c.n) (rangeHi c.a c.n) c.p).length ≤ 24 := by
  by_cases hw : wrE l c = 0
  · obtain ⟨h1, h2, h3⟩ := (wr_iff hm).1 hw
    obtain ⟨h4, h5⟩ := pro_ok hm hw
    refine ⟨h1, h2, h3, ?_⟩
    rw [h4] at h
    cases hd : decide ((24 : Int) < ((setL l (rangeLo c.a c.n) (rangeHi c.a c.n) c.p).length : Int)) with
    | true => rw [(kept_no (was := l) hd).2] at h; cases h
    | false =>
      rw [h5, (kept_yes (v := 0) (was := l) hd).1]
      exact ⟨rfl, by have := of_decide_eq_false hd; omega⟩
  · rw [(pro_bad rfl hw).1] at h
    exact absurd h hw
theorem pro_rt {l : List Ar} {c : Cl} (hm : mayS l = true) (h : (protN l c).er = 0) : mayS (protL l c) = true ∧ ∀ x t, x % 4096 = 0 → (Has (protL l c) x t ↔ (Has l x t ∧ ¬ Touch x (rangeLo c.a c.n) (rangeHi c.a c.n)) ∨ ∃ t0, (Has l x t0 ∧ Touch x (rangeLo c.a c.n) (rangeHi c.a c.n)) ∧ t = setT c.p t0) := by
  obtain ⟨h1, h2, h3, h4, h5⟩ := pro_yes hm h
  have hg := (range_ok h1).1
  have := hg.lo
  have := hg.hi
  have := hg.lt
  obtain ⟨s1, s2⟩ := set_spec (mayS_rt hm).1 (lo := rangeLo c.a c.n) (hi := rangeHi c.a c.n) (p := c.p) (by unfold In64; omega) (by unfold In64; omega) h2.1 h2.2
  rw [h4]
  exact ⟨rt_mayS s1 h5, s2⟩
/-! ### A fault at a page that is there -/
/-! ### ProtectAllows -/
/-! ### ProtectHalves -/
/-! ### ProtectBack -/
/-! ### Numbers that the laws reckon -/
abbrev hvN (q : Int) : Int := IntKind.i64.wrap (2 + IntKind.i64.wrap (Int.tmod q 40))
abbrev hvK (q r : Int) : Int := IntKind.i64.wrap (1 + Int.tmod (IntKind.i64.wrap r) (IntKind.i64.wrap (hvN q - 1)))
abbrev hvA (q : Int) : Int := IntKind.i64.wrap (4096 * IntKind.i64.wrap (16 + IntKind.i64.wrap (Int.tmod q 60)))
abbrev hvP (q : Int) : Int := IntKind.i64.wrap (Int.tmod q 8)
abbrev hv1 (q1 q2 q3 q4 : Int) : Cl := ⟨0, hvA q1, IntKind.i64.wrap (4096 * hvN q2), 0, 0, hvP q4, 0, 0, 0⟩
abbrev hv3 (q1 q2 q3 q4 : Int) : Cl := ⟨0, IntKind.i64.wrap (hvA q1 + IntKind.i64.wrap (4096 * hvK q2 q3)), IntKind.i64.wrap (4096 * IntKind.i64.wrap (hvN q2 - hvK q2 q3)), 0, 0, hvP q4, 0, 0, 0⟩
end Go.Proofs.Ytbcicjmepojlnaa.Eng
