/- Texts of this work, laid together: symbolic execution over the model, contracts of the program's functions, what they come to; conditions: as each says. -/
import Derived.Test.YtbcicjmepojlnaaGreatPkGBJ
/- What is asked of a map; no condition but those typed. -/
namespace Go.Proofs.YtbcicjmepojlnaaGreat.Eng
open Go Go.RowKit
set_option autoImplicit false
set_option linter.unusedSimpArgs false
set_option linter.unusedVariables false
set_option linter.unusedSectionVars false
theorem fl15_all : ∀ f : Fin 16, flagsE (f.val : Int) 15 = 0 ∧ (Int.tmod (f.val : Int) 4 == 2) = (bits .and .i64 (f.val : Int) 3 == 2) := by decide +kernel
theorem fl15 {f : Int} (h1 : decide (f < 0) = false) (h2 : decide (15 < f) = false) : flagsE f 15 = 0 ∧ (Int.tmod f 4 == 2) = (bits .and .i64 f 3 == 2) := by
  have a1 := of_decide_eq_false h1
  have a2 := of_decide_eq_false h2
  have := fl15_all ⟨f.toNat, by omega⟩
  have e : ((f.toNat : Nat) : Int) = f := by omega
  simp only [e] at this
  exact this
theorem fl15_no {f : Int} (h64 : In64 f) (h : decide (f < 0) = true ∨ decide (15 < f) = true) : flagsE f 15 = 1 := by
  unfold flagsE
  rcases h with h | h
  · rw [h]; rfl
  · have a := of_decide_eq_true h
    have b := h64.2
    obtain ⟨m, rfl⟩ : ∃ m : Nat, f = m := ⟨f.toNat, by omega⟩
    have k := andNot_zero m 15 (by omega) (by omega)
    rw [if_pos]
    rw [Bool.or_eq_true]
    refine .inr ?_
    rw [bne_iff_ne]
    intro hc
    have h3 := k.1 hc
    have h4 := Nat.and_le_right (n := m) (m := 15)
    omega
theorem prot_no {p : Int} (h : decide (p < 0) = true ∨ decide (7 < p) = true) : protE p = 1 := by
  unfold protE
  rw [if_pos]
  rw [Bool.or_eq_true]
  exact h
theorem prot_ok {p : Int} (h1 : decide (p < 0) = false) (h2 : decide (7 < p) = false) : protE p = 0 := by
  unfold protE
  rw [if_neg]
  rw [h1, show decide (p > 7) = false from h2]
  simp
section
variable {l : List Ar} {c : Cl} (hm : mayS l = true)
include hm
theorem mp_ask (h : (askE c != 0) = true) : mapN l c = errA (askE c) ∧ mapL l c = l ∧ ((mapN l c).er != 0) = true := by
  have he : mapE l c = askE c := by unfold mapE; rw [hm, if_neg (by simp), if_pos h]
  have e1 : mapN l c = errA (askE c) := by unfold mapN; rw [he, if_pos h]
  exact ⟨e1, by unfold mapL; rw [he, if_pos h], by rw [e1]; exact h⟩
theorem mp_place (h0 : askE c = 0) (h : (placeE l c.a (sizeV c.n) c.f != 0) = true) : mapN l c = errA (placeE l c.a (sizeV c.n) c.f) ∧ mapL l c = l ∧ ((mapN l c).er != 0) = true := by
  have he : mapE l c = placeE l c.a (sizeV c.n) c.f := by unfold mapE; rw [hm, if_neg (by simp), h0, if_neg (by simp)]
  have e1 : mapN l c = errA (placeE l c.a (sizeV c.n) c.f) := by unfold mapN; rw [he, if_pos h]
  exact ⟨e1, by unfold mapL; rw [he, if_pos h], by rw [e1]; exact h⟩
theorem mp_ok (h0 : askE c = 0) (h : (placeE l c.a (sizeV c.n) c.f != 0) = false) : mapN l c = keptN (putL l (mapA l c)) (mapV l c) ∧ mapL l c = keptL l (putL l (mapA l c)) := by
  have he : mapE l c = placeE l c.a (sizeV c.n) c.f := by unfold mapE; rw [hm, if_neg (by simp), h0, if_neg (by simp)]
  exact ⟨by unfold mapN; rw [he, if_neg (by rw [h]; simp)], by unfold mapL; rw [he, if_neg (by rw [h]; simp)]⟩
end
section
variable {c : Cl} (hs : (sizeE c.n == 0) = true)
include hs
theorem ask_a (h : decide (c.p < 0) = true ∨ decide (7 < c.p) = true) : askE c = 1 := by
  have e := beq_yes hs
  unfold askE
  rw [e, prot_no h]
  rfl
theorem ask_b (h1 : decide (c.p < 0) = false) (h2 : decide (7 < c.p) = false) (h64 : In64 c.f) (h : decide (c.f < 0) = true ∨ decide (15 < c.f) = true) : askE c = 1 := by
  have e := beq_yes hs
  unfold askE
  rw [e, prot_ok h1 h2, fl15_no h64 h]
  rfl
theorem ask_c (h1 : decide (c.p < 0) = false) (h2 : decide (7 < c.p) = false) (h3 : decide (c.f < 0) = false) (h4 : decide (15 < c.f) = false) (h : (Int.tmod c.f 4 == 2) = true) : askE c = 1 := by
  have e := beq_yes hs
  have k := fl15 h3 h4
  rw [k.2] at h
  unfold askE
  rw [e, prot_ok h1 h2, k.1, h]
  rfl
theorem ask_d (h1 : decide (c.p < 0) = false) (h2 : decide (7 < c.p) = false) (h3 : decide (c.f < 0) = false) (h4 : decide (15 < c.f) = false) (h : (Int.tmod c.f 4 == 2) = false) : askE c = backE c.b c.o (sizeV c.n) := by
  have e := beq_yes hs
  have k := fl15 h3 h4
  rw [k.2] at h
  unfold askE
  rw [e, prot_ok h1 h2, k.1, h]
  rfl
end
theorem ask_s {c : Cl} (h : (sizeE c.n == 0) = false) : askE c = sizeE c.n ∧ (sizeE c.n != 0) = true := by
  have h2 : (sizeE c.n != 0) = true := by
    rw [bne_iff_ne]
    exact beq_no h
  exact ⟨by unfold askE; rw [if_pos h2], h2⟩
theorem place_rng {l : List Ar} (hm : mayS l = true) {a n f : Int} (hn : SzOk n) (ha : In64 a) (h : placeE l a n f = 0) : 65536 ≤ placeV l a n f ∧ placeV l a n f + n ≤ 2097152 ∧ placeV l a n f % 4096 = 0 := by
  have hrt := (mayS_rt hm).1
  obtain ⟨n1, n2, n3⟩ := hn
  have h64 : In64 n := by unfold In64; omega
  unfold placeE at h
  unfold placeV
  rw [hm] at h ⊢
  rw [if_neg (by simp)] at h ⊢
  by_cases b1 : bitB f 1 = true
  · rw [if_pos b1] at h ⊢
    unfold fixV
    rw [h, if_neg (by simp)]
    have hr : rangeE a n = 0 := by
      unfold fixE at h
      by_cases hb : (rangeE a n != 0) = true
      · rw [if_pos hb] at h
        exact h
      · have hb2 : (rangeE a n != 0) = false := by simpa using hb
        exact bne_no hb2
    obtain ⟨⟨r1, r2, r3, r4, r5⟩, e1, e2, e3⟩ := range_ok hr
    have hv := size_ok e3
    have := hv.2.1
    rw [e1] at r1 r4
    rw [e2] at r2
    exact ⟨r1, by omega, r4⟩
  · rw [if_neg b1] at h ⊢
    by_cases b2 : (a != 0 && fitsL l a n) = true
    · rw [if_pos b2]
      rw [Bool.and_eq_true] at b2
      have k := (fits_iff hrt ha h64).1 b2.2
      exact ⟨k.2.2.1, k.2.2.2.1, k.2.1⟩
    · rw [if_neg b2] at h ⊢
      by_cases b3 : pickB l n f = true
      · rw [if_pos b3]
        have hs : sizeG n = true := (sizeG_iff h64).2 ⟨n1, n2, n3⟩
        unfold pickB at b3
        unfold pickV
        split
        · rename_i b4
          rw [if_pos b4] at b3
          have g := ((low_spec hrt hs h64).1 b3).1
          exact ⟨g.l1, g.h1, g.z⟩
        · rename_i b4
          rw [if_neg b4] at b3
          have g := ((high_spec hrt hs h64).1 b3).1
          exact ⟨g.l1, g.h1, g.z⟩
      · rw [if_neg b3] at h
        cases h
theorem back_is {b o n : Int} (hn : SzOk n) (h : backE b o n = 0) : 0 ≤ b ∧ b ≤ 9 ∧ (b = 0 → o = 0) ∧ (b ≠ 0 → o % 4096 = 0 ∧ 0 ≤ o ∧ o ≤ 1099511627776 - n) := by
  obtain ⟨n1, n2, n3⟩ := hn
  unfold backE at h
  rw [w64_id (show In64 (1099511627776 - n) by unfold In64; omega)] at h
  by_cases h1 : backBad b o = true
  · rw [if_pos h1] at h; cases h
  · rw [if_neg h1] at h
    by_cases h2 : (Int.tmod o 4096 != 0) = true
    · rw [if_pos h2] at h; cases h
    · rw [if_neg h2] at h
      have h2' := (tmod0 o).1 (by simpa using h2)
      by_cases h3 : (decide (o < 0) || decide (o > 1099511627776 - n)) = true
      · rw [if_pos h3] at h; cases h
      · simp only [Bool.or_eq_true, decide_eq_true_eq, not_or] at h3
        unfold backBad at h1
        simp at h1
        omega
theorem map_fo {l : List Ar} {c : Cl} (hm : mayS l = true) (hs : (sizeE c.n == 0) = true) (ha : In64 c.a) (h1 : decide (c.p < 0) = false) (h2 : decide (7 < c.p) = false) (hb : backE c.b c.o (sizeV c.n) = 0) (h : (placeE l c.a (sizeV c.n) c.f != 0) = false) : Fo (mapA l c) ∧ (mapA l c).e = mapV l c + sizeV c.n := by
  have hn := (size_ok (beq_yes hs)).1
  obtain ⟨r1, r2, r3⟩ := place_rng hm hn ha (bne_no h)
  obtain ⟨k1, k2, k3, k4⟩ := back_is hn hb
  obtain ⟨n1, n2, n3⟩ := hn
  have a1 := of_decide_eq_false h1
  have a2 := of_decide_eq_false h2
  have e : w64 (mapV l c + sizeV c.n) = mapV l c + sizeV c.n := w64_id (by unfold mapV In64; omega)
  have e2 : (mapA l c).e = mapV l c + sizeV c.n := e
  refine ⟨fo.1 ((formed_iff _).2 ⟨r3, ?_, r1, ?_, ?_, (show 0 ≤ c.p by omega), (show c.p ≤ 7 by omega), k1, k2, k3, fun hne => ?_⟩), e2⟩
  · rw [e2]; unfold mapV; omega
  · rw [e2]; unfold mapV; omega
  · rw [e2]; show mapV l c < _; omega
  · have := k4 hne
    rw [e2]
    exact ⟨this.1, this.2.1, by show c.o ≤ 1099511627776 - (mapV l c + sizeV c.n - mapV l c); omega⟩
theorem map_pages {l : List Ar} {c : Cl} (hm : mayS l = true) (hf : Fo (mapA l c)) (he : (mapA l c).e = mapV l c + sizeV c.n) : listS (withP ⟨c.p, bitB c.f 4, c.b, c.o⟩ (mapV l c / 4096).toNat (ofL l) (((mapV l c + sizeV c.n) / 4096).toNat - (mapV l c / 4096).toNat)) = putL l (mapA l c) := by
  have h1 := with_of hf (s := ofL l) (ofL_len l)
  have hl : lenA (mapA l c) = ((mapV l c + sizeV c.n) / 4096).toNat - (mapV l c / 4096).toNat := by
    have := hf.lo
    have := hf.lt
    unfold lenA
    rw [he]
    show ((mapV l c + sizeV c.n) / 4096 - mapV l c / 4096).toNat = _
    have hs : (mapA l c).s = mapV l c := rfl
    omega
  rw [← put_pages (mayS_rt hm).1 hf, ← h1, hl]
  rfl
theorem mp_x {l : List Ar} {c : Cl} (hm : mayS l = true) (hs : (sizeE c.n == 0) = true) (ha : In64 c.a) (h1 : decide (c.p < 0) = false) (h2 : decide (7 < c.p) = false) (h3 : decide (c.f < 0) = false) (h4 : decide (15 < c.f) = false) (hb : backE c.b c.o (sizeV c.n) = 0) (h : (placeE l c.a (sizeV c.n) c.f != 0) = false) :
    listS (withP ⟨c.p, (Int.tmod (IntKind.i64.wrap (Int.tdiv c.f 4)) 2 == 1), c.b, c.o⟩ (placeV l c.a (sizeV c.n) c.f / 4096).toNat (ofL l) ((IntKind.i64.wrap (placeV l c.a (sizeV c.n) c.f + sizeV c.n) / 4096).toNat - (placeV l c.a (sizeV c.n) c.f / 4096).toNat)) = putL l (mapA l c) := by
  have a3 := of_decide_eq_false h3
  have a4 := of_decide_eq_false h4
  obtain ⟨hf, he⟩ := map_fo hm hs ha h1 h2 hb h
  have hn := (size_ok (beq_yes hs)).1
  obtain ⟨r1, r2, r3⟩ := place_rng hm hn ha (bne_no h)
  have := hn.lo
  have e : IntKind.i64.wrap (placeV l c.a (sizeV c.n) c.f + sizeV c.n) = placeV l c.a (sizeV c.n) c.f + sizeV c.n := w64_id (by unfold In64; omega)
  rw [e, (flag_is ⟨by omega, by omega⟩).2.2.1]
  exact map_pages hm hf he
theorem mp_same {l : List Ar} {c : Cl} {X : List Ar} (hm : mayS l = true) (h0 : askE c = 0) (h : (placeE l c.a (sizeV c.n) c.f != 0) = false) (hx : X = putL l (mapA l c)) (hn : decide ((24 : Int) < (X.length : Int)) = true) : mapN l c = errA 9 ∧ ((mapN l c).er != 0) = true := by
  subst hx
  have g := (mp_ok hm h0 h).1
  rw [(kept_no (was := l) hn).2] at g
  exact ⟨g, by rw [g]; rfl⟩
theorem mp_new {l : List Ar} {c : Cl} {X : List Ar} (hm : mayS l = true) (h0 : askE c = 0) (h : (placeE l c.a (sizeV c.n) c.f != 0) = false) (hx : X = putL l (mapA l c)) (hn : decide ((24 : Int) < (X.length : Int)) = false) : mapN l c = okA (mapV l c) ∧ ((mapN l c).er != 0) = false ∧ X = mapL l c := by
  subst hx
  obtain ⟨g1, g2⟩ := mp_ok hm h0 h
  rw [(kept_yes (was := l) hn).2] at g1
  rw [(kept_yes (v := 0) (was := l) hn).1] at g2
  exact ⟨g1, by rw [g1]; rfl, g2.symm⟩
theorem mp_side {l : List Ar} {a n f : Int} (hm : mayS l = true) (hs : (sizeE n == 0) = true) (ha : In64 a) (h : (placeE l a (sizeV n) f != 0) = false) : 0 ≤ placeV l a (sizeV n) f ∧ placeV l a (sizeV n) f ≤ IntKind.i64.wrap (placeV l a (sizeV n) f + sizeV n) ∧ IntKind.i64.wrap (placeV l a (sizeV n) f + sizeV n) ≤ 2097152 := by
  have hn := (size_ok (beq_yes hs)).1
  obtain ⟨r1, r2, r3⟩ := place_rng hm hn ha (bne_no h)
  have := hn.lo
  have e : IntKind.i64.wrap (placeV l a (sizeV n) f + sizeV n) = placeV l a (sizeV n) f + sizeV n := w64_id (by unfold In64; omega)
  rw [e]
  omega
theorem mp_sz {n : Int} (hs : (sizeE n == 0) = true) : In64 (sizeV n) := by
  have hn := (size_ok (beq_yes hs)).1
  have := hn.lo
  have := hn.hi
  unfold In64
  omega
theorem fl_rng {f : Int} (h3 : decide (f < 0) = false) (h4 : decide (15 < f) = false) : 0 ≤ f ∧ f ≤ 255 := by
  have a3 := of_decide_eq_false h3
  have a4 := of_decide_eq_false h4
  omega
end Go.Proofs.YtbcicjmepojlnaaGreat.Eng
