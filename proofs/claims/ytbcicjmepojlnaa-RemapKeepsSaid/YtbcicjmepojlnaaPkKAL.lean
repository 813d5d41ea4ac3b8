/- Texts of this work, laid together: symbolic execution over the model, contracts of the program's functions, what they come to; conditions: as each says. -/
import Derived.Test.YtbcicjmepojlnaaPkKHF
import Derived.Test.YtbcicjmepojlnaaPkKKD
import Derived.Test.YtbcicjmepojlnaaPkKKE
import Derived.Test.YtbcicjmepojlnaaPkKKG
import Derived.Test.YtbcicjmepojlnaaPkKKH
import Derived.Test.YtbcicjmepojlnaaPkKKI
import Derived.Test.YtbcicjmepojlnaaPkKKK
/- Pages of lists and lists of pages: what the reference's Of, List, Made come to, page by page; no condition but those typed. -/
namespace Go.Proofs.Ytbcicjmepojlnaa.Eng
open Go Go.RowKit
set_option autoImplicit false
set_option linter.unusedSimpArgs false
set_option linter.unusedVariables false
structure GoodAt (t : At) : Prop where
  p0 : 0 ≤ t.p
  p7 : t.p ≤ 7
  b0 : 0 ≤ t.b
  b9 : t.b ≤ 9
  oz : t.b = 0 → t.o = 0
  om : t.b ≠ 0 → t.o % 4096 = 0 ∧ 0 ≤ t.o ∧ t.o ≤ 1099511627776 - 4096
def GoodS (s : List Pg) : Prop := s.length = 512 ∧ ∀ q : Nat, q < 512 → (nthP s q).is = true → 16 ≤ q ∧ GoodAt (nthP s q).t
def PHas (s : List Pg) (x : Int) (t : At) : Prop := ∃ q : Nat, x = 4096 * q ∧ 16 ≤ q ∧ q < 512 ∧ (nthP s q).is = true ∧ (nthP s q).t = t
theorem ext_good {a : Ar} (h : Fo a) {x : Int} (hx : inA a x) (h0 : x % 4096 = 0) : GoodAt (ext a x) := by
  have := h.s0; have := h.e0; have := h.lo; have := h.hi; have h1 := hx.1; have h2 := hx.2
  refine ⟨h.p0, h.p7, h.b0, h.b9, fun hb => if_pos hb, fun hb => ?_⟩
  have hb' : a.b ≠ 0 := hb
  have := h.om hb'
  show offP a x % 4096 = 0 ∧ 0 ≤ offP a x ∧ offP a x ≤ _
  unfold offP
  rw [if_neg hb']
  omega
theorem after_ext {z : Ar} (h : Fo z) {x : Int} (hx : inA z x) (h0 : x % 4096 = 0) {t : At} : afterA (ext z x) t = true ↔ ext z (x + 4096) = t := by
  have := h.s0; have := h.e0; have := h.lo; have := h.hi; have h1 := hx.1; have h2 := hx.2
  rw [after_iff]
  obtain ⟨t1, t2, t3, t4⟩ := t
  show z.p = t1 ∧ z.sh = t2 ∧ z.b = t3 ∧ (if z.b > 0 then w64 (offP z x + 4096) else offP z x) = t4 ↔ ext z (x + 4096) = ⟨t1, t2, t3, t4⟩
  unfold ext
  simp only [At.mk.injEq]
  refine and_congr_right fun _ => and_congr_right fun _ => and_congr_right fun _ => ?_
  have hb0 := h.b0
  by_cases hb : z.b = 0
  · rw [if_neg (by omega)]
    unfold offP
    rw [if_pos hb, if_pos hb]
  · have := h.om hb
    rw [if_pos (by omega)]
    unfold offP
    rw [if_neg hb, if_neg hb, w64_id (by unfold In64; omega)]
    constructor <;> intro h <;> omega
/-! ### List -/
theorem pageAr_fo {m : Nat} (h0 : 16 ≤ m) (h : m < 512) {t : At} (ht : GoodAt t) : Fo (pageAr m t) := by
  unfold pageAr
  exact ⟨by show (4096 * (m : Int)) % 4096 = 0; omega, by show (4096 * ((m : Int) + 1)) % 4096 = 0; omega, by show (65536 : Int) ≤ 4096 * m; omega, by show 4096 * ((m : Int) + 1) ≤ 2097152; omega, by show 4096 * (m : Int) < 4096 * ((m : Int) + 1); omega,
    ht.p0, ht.p7, ht.b0, ht.b9, ht.oz, fun hb => by have := ht.om hb; show t.o % 4096 = 0 ∧ 0 ≤ t.o ∧ t.o ≤ 1099511627776 - (4096 * ((m : Int) + 1) - 4096 * (m : Int)); omega⟩
theorem pageAr_ext {m : Nat} {t : At} (ht : GoodAt t) : ext (pageAr m t) (4096 * m) = t := by
  unfold ext pageAr offP
  obtain ⟨p, sh, b, o⟩ := t
  simp only [At.mk.injEq, true_and]
  split
  · rename_i hb; exact (ht.oz hb).symm
  · omega
theorem listN_spec {s : List Pg} (hs : GoodS s) : ∀ n : Nat, n ≤ 496 → Rt (listN s n) ∧ (∀ a ∈ listN s n, a.e ≤ 4096 * ((16 : Int) + n)) ∧ ∀ x t, x % 4096 = 0 → (Has (listN s n) x t ↔ PHas s x t ∧ x < 4096 * ((16 : Int) + n))
  | 0, _ => ⟨⟨fun a h => (by cases h), List.Pairwise.nil⟩, fun a h => (by cases h), fun x t _ => ⟨fun h => (Has.nil h).elim, fun ⟨⟨q, h1, h2, _⟩, h3⟩ => by exfalso; omega⟩⟩
  | n + 1, hn => by
    obtain ⟨r1, r2, r3⟩ := listN_spec hs n (by omega)
    have key : ∀ x t, PHas s x t ∧ x < 4096 * ((16 : Int) + (n + 1 : Nat)) ↔ (PHas s x t ∧ x < 4096 * ((16 : Int) + n)) ∨ (x = 4096 * ((16 : Int) + n) ∧ (nthP s (16 + n)).is = true ∧ (nthP s (16 + n)).t = t) := by
      intro x t
      constructor
      · rintro ⟨⟨q, h1, h2, h3, h4, h5⟩, h6⟩
        by_cases hq : q = 16 + n
        · subst hq; exact .inr ⟨by omega, h4, h5⟩
        · exact .inl ⟨⟨q, h1, h2, h3, h4, h5⟩, by omega⟩
      · rintro (⟨h1, h2⟩ | ⟨h1, h2, h3⟩)
        · exact ⟨h1, by omega⟩
        · exact ⟨⟨16 + n, by omega, by omega, by omega, h2, h3⟩, by omega⟩
    cases hi : (nthP s (16 + n)).is with
    | false =>
      rw [show listN s (n + 1) = listN s n from step_not hi]
      refine ⟨r1, fun a ha => by have := r2 a ha; omega, fun x t hx => ?_⟩
      rw [r3 x t hx, key, hi]
      exact ⟨.inl, fun h => h.elim id fun h => by have := h.2.1; cases this⟩
    | true =>
      have hg := (hs.2 (16 + n) (by omega) hi).2
      have fnew := pageAr_fo (m := 16 + n) (by omega) (by omega) hg
      have enew := pageAr_ext (m := 16 + n) hg
      have snew : (pageAr (16 + n) (nthP s (16 + n)).t).s = 4096 * ((16 : Int) + n) := by unfold pageAr; simp only; omega
      have enew' : (pageAr (16 + n) (nthP s (16 + n)).t).e = 4096 * ((16 : Int) + (n + 1 : Nat)) := by unfold pageAr; simp only; omega
      have app : (∀ y ∈ listN s n, goesA y (pageAr (16 + n) (nthP s (16 + n)).t) = false) → Rt (listN s n ++ [pageAr (16 + n) (nthP s (16 + n)).t]) ∧ (∀ a ∈ listN s n ++ [pageAr (16 + n) (nthP s (16 + n)).t], a.e ≤ 4096 * ((16 : Int) + (n + 1 : Nat))) ∧ ∀ x t, x % 4096 = 0 → (Has (listN s n ++ [pageAr (16 + n) (nthP s (16 + n)).t]) x t ↔ PHas s x t ∧ x < 4096 * ((16 : Int) + (n + 1 : Nat))) := by
        intro hno
        refine ⟨⟨fun c hc => ?_, List.pairwise_append.2 ⟨r1.2, List.pairwise_singleton _ _, fun y hy c hc => ?_⟩⟩, fun c hc => ?_, fun x t hx => ?_⟩
        · rcases List.mem_append.1 hc with h | h
          · exact r1.1 c h
          · rw [List.mem_singleton.1 h]; exact fo.2 fnew
        · rw [List.mem_singleton.1 hc, snew]
          exact ⟨r2 y hy, hno y hy⟩
        · rcases List.mem_append.1 hc with h | h
          · have := r2 c h; omega
          · rw [List.mem_singleton.1 h, enew']; exact Int.le_refl _
        · rw [has_app, has_one, r3 x t hx, key]
          refine or_congr_right ?_
          unfold inA
          rw [snew, enew']
          constructor
          · rintro ⟨⟨h1, h2⟩, h3⟩
            have : x = 4096 * ((16 : Int) + n) := by omega
            refine ⟨this, hi, ?_⟩
            rw [← h3, this, show 4096 * ((16 : Int) + n) = 4096 * ((16 + n : Nat) : Int) by omega, enew]
          · rintro ⟨h1, h2, h3⟩
            refine ⟨by omega, ?_⟩
            rw [h1, show 4096 * ((16 : Int) + n) = 4096 * ((16 + n : Nat) : Int) by omega, enew, h3]
      show Rt (listStep s (listN s n) (16 + n)) ∧ (∀ a ∈ listStep s (listN s n) (16 + n), _) ∧ ∀ x t, x % 4096 = 0 → (Has (listStep s (listN s n) (16 + n)) x t ↔ _)
      unfold listStep
      rw [if_pos hi]
      split
      · rename_i hl
        have hnil : listN s n = [] := List.getLast?_eq_none_iff.1 hl
        have := app (by rw [hnil]; intro y hy; cases hy)
        rw [hnil] at this
        exact this
      · rename_i z hl
        obtain ⟨d, hd⟩ := List.getLast?_eq_some_iff.1 hl
        have hz : z ∈ listN s n := by rw [hd]; exact List.mem_append.2 (.inr (List.mem_singleton.2 rfl))
        have fz := fo.1 (r1.1 z hz)
        have hze := r2 z hz
        have := fz.lt; have := fz.s0; have := fz.e0; have := fz.lo
        -- its last page
        have hlast : z.e = 4096 * ((16 : Int) + n) → (nthP s (16 + n - 1)).t = ext z (z.e - 4096) ∧ (nthP s (16 + n - 1)).is = true := by
          intro he
          have h1 : Has (listN s n) (z.e - 4096) (ext z (z.e - 4096)) := ⟨z, hz, ⟨by omega, by omega⟩, rfl⟩
          obtain ⟨⟨q, q1, q2, q3, q4, q5⟩, _⟩ := (r3 _ _ (by omega)).1 h1
          have : q = 16 + n - 1 := by omega
          subst this
          exact ⟨q5, q4⟩
        have hgo : goesOn s z (16 + n) = true ↔ z.e = 4096 * ((16 : Int) + n) ∧ ext z z.e = (nthP s (16 + n)).t := by
          unfold goesOn
          rw [Bool.and_eq_true, beq_iff_eq]
          constructor
          · rintro ⟨h1, h2⟩
            have h1' : z.e = 4096 * ((16 : Int) + n) := by omega
            rw [(hlast h1').1, after_ext fz ⟨by omega, by omega⟩ (by omega), show z.e - 4096 + 4096 = z.e by omega] at h2
            exact ⟨h1', h2⟩
          · rintro ⟨h1, h2⟩
            refine ⟨by omega, ?_⟩
            rw [(hlast h1).1, after_ext fz ⟨by omega, by omega⟩ (by omega), show z.e - 4096 + 4096 = z.e by omega]
            exact h2
        split
        · rename_i hgt
          obtain ⟨g1, g2⟩ := hgo.1 hgt
          have pd := List.pairwise_append.1 (hd ▸ r1.2)
          rw [hd, show (d ++ [z]).dropLast = d by simp]
          have fz' : Fo { z with e := 4096 * (((16 + n : Nat) : Int) + 1) } := by
            refine ⟨fz.s0, by show (4096 * (((16 + n : Nat) : Int) + 1)) % 4096 = 0; omega, fz.lo, by show 4096 * (((16 + n : Nat) : Int) + 1) ≤ 2097152; omega, by show z.s < 4096 * (((16 + n : Nat) : Int) + 1); omega, fz.p0, fz.p7, fz.b0, fz.b9, fz.oz, fun hb => ?_⟩
            have hb' : z.b ≠ 0 := hb
            have h1 := fz.om hb'
            have h2 : (nthP s (16 + n)).t.o = z.o + z.e - z.s := by rw [← g2]; unfold ext offP; simp only; rw [if_neg hb']
            have h3 : (nthP s (16 + n)).t.b = z.b := by rw [← g2]; rfl
            have h4 := hg.om (by rw [h3]; exact hb')
            show z.o % 4096 = 0 ∧ 0 ≤ z.o ∧ z.o ≤ 1099511627776 - (4096 * (((16 + n : Nat) : Int) + 1) - z.s)
            omega
          have hx' : ∀ x, ext { z with e := 4096 * (((16 + n : Nat) : Int) + 1) } x = ext z x := fun x => rfl
          refine ⟨⟨fun c hc => ?_, List.pairwise_append.2 ⟨pd.1, List.pairwise_singleton _ _, fun y hy c hc => ?_⟩⟩, fun c hc => ?_, fun x t hx => ?_⟩
          · rcases List.mem_append.1 hc with h | h
            · exact r1.1 c (by rw [hd]; exact List.mem_append.2 (.inl h))
            · rw [List.mem_singleton.1 h]; exact fo.2 fz'
          · rw [List.mem_singleton.1 hc]
            obtain ⟨h1, h2⟩ := pd.2.2 y hy z (List.mem_singleton.2 rfl)
            refine ⟨h1, ?_⟩
            cases hg' : goesA y { z with e := 4096 * (((16 + n : Nat) : Int) + 1) } with
            | false => rfl
            | true =>
              obtain ⟨k1, _, k3, k4⟩ := goes_ext.1 hg'
              have : goesA y z = true := goes_ext.2 ⟨k1, fz, k3, k4⟩
              rw [h2] at this
              cases this
          · rcases List.mem_append.1 hc with h | h
            · have := r2 c (by rw [hd]; exact List.mem_append.2 (.inl h)); omega
            · rw [List.mem_singleton.1 h]
              show 4096 * (((16 + n : Nat) : Int) + 1) ≤ 4096 * ((16 : Int) + (n + 1 : Nat))
              omega
          · have e1 := r3 x t hx
            rw [hd, has_app, has_one] at e1
            rw [has_app, has_one, key, ← e1, or_assoc]
            refine or_congr_right ?_
            unfold inA
            show (z.s ≤ x ∧ x < 4096 * (((16 + n : Nat) : Int) + 1)) ∧ ext z x = t ↔ _
            constructor
            · rintro ⟨⟨h1, h2⟩, h3⟩
              by_cases hxe : x < z.e
              · exact .inl ⟨⟨h1, hxe⟩, h3⟩
              · have : x = z.e := by omega
                exact .inr ⟨by omega, hi, by rw [← g2, ← this, h3]⟩
            · rintro (⟨⟨h1, h2⟩, h3⟩ | ⟨h1, h2, h3⟩)
              · exact ⟨⟨h1, by omega⟩, h3⟩
              · exact ⟨⟨by omega, by omega⟩, by rw [h1, ← g1, g2, h3]⟩
        · rename_i hgf
          refine app fun y hy => ?_
          cases hg' : goesA y (pageAr (16 + n) (nthP s (16 + n)).t) with
          | false => rfl
          | true =>
            exfalso
            obtain ⟨k1, _, k3, k4⟩ := goes_ext.1 hg'
            rw [snew] at k3 k4
            rw [hd] at hy
            rcases List.mem_append.1 hy with h | h
            · have pd := List.pairwise_append.1 (hd ▸ r1.2)
              have := (pd.2.2 y h z (List.mem_singleton.2 rfl)).1
              omega
            · rw [List.mem_singleton.1 h] at k3 k4
              refine hgf (hgo.2 ⟨k3, ?_⟩)
              rw [k4, show 4096 * ((16 : Int) + n) = 4096 * ((16 + n : Nat) : Int) by omega, enew]
theorem listS_spec {s : List Pg} (hs : GoodS s) : Rt (listS s) ∧ ∀ x t, x % 4096 = 0 → (Has (listS s) x t ↔ PHas s x t) := by
  obtain ⟨h1, _, h3⟩ := listN_spec hs 496 (Nat.le_refl _)
  refine ⟨h1, fun x t hx => (h3 x t hx).trans ⟨fun h => h.1, fun h => ⟨h, ?_⟩⟩⟩
  obtain ⟨q, h4, _, h5, _⟩ := h
  omega
end Go.Proofs.Ytbcicjmepojlnaa.Eng
/- Cuts, puts, sets, parts of right lists, page by page; no condition but those typed. -/
namespace Go.Proofs.Ytbcicjmepojlnaa.Eng
open Go Go.RowKit
set_option autoImplicit false
set_option linter.unusedSimpArgs false
set_option linter.unusedVariables false
theorem floorA_eq' {n : Int} (h : In64 n) : floorA n = n - n % 4096 := by
  unfold In64 at h
  unfold floorA
  rcases (by omega : n < 0 ∨ 0 ≤ n) with h0 | h0
  · rw [tmod_neg h0, w64_id (n := -(-n % 4096) + 4096) (by unfold In64; omega), tmod_pos (by omega), w64_id (by unfold In64; omega)]
    omega
  · rw [tmod_pos h0, w64_id (n := n % 4096 + 4096) (by unfold In64; omega), tmod_pos (by omega), w64_id (by unfold In64; omega)]
    omega
theorem toI_eq {hi : Int} (h : In64 hi) : (hi < 2097152 → toI hi = hi + (-hi) % 4096) ∧ (¬ hi < 2097152 → toI hi = hi) := by
  unfold In64 at h
  unfold toI
  constructor
  · intro h1
    rw [if_pos h1]
    by_cases hm : hi = -9223372036854775808
    · subst hm
      decide +kernel
    · rw [w64_id (n := 0 - hi) (by unfold In64; omega), floorA_eq' (by unfold In64; omega), w64_id (by unfold In64; omega)]
      have : (0 - hi) = -hi := by omega
      rw [this]
      omega
  · intro h1
    rw [if_neg h1]
/-! ### Parts -/
structure SubA (a' a : Ar) : Prop where
  fo : Fo a'
  s : a.s ≤ a'.s
  e : a'.e ≤ a.e
  x : ∀ x, ext a' x = ext a x
theorem part_spec {a : Ar} (h : Fo a) (lo hi : Int) : (hasPart a lo hi = true → SubA (partA a lo hi) a ∧ ∀ x, x % 4096 = 0 → (inA (partA a lo hi) x ↔ inA a x ∧ Touch x lo hi)) ∧ (hasPart a lo hi = false → ∀ x, x % 4096 = 0 → inA a x → ¬ Touch x lo hi) := by
  have := h.s0; have := h.e0; have := h.lo; have := h.hi; have := h.lt
  by_cases hc : hi ≤ a.s ∨ lo ≥ a.e ∨ lo ≥ hi
  · have hno : hasPart a lo hi = false := by
      unfold hasPart
      rw [if_pos]
      simp only [Bool.or_eq_true, Bool.not_eq_true', decide_eq_true_eq]
      omega
    refine ⟨fun hp => (by rw [hno] at hp; cases hp), fun _ x hx hin ht => ?_⟩
    have := hin.1; have := hin.2; have := ht.1; have := ht.2.1; have := ht.2.2
    omega
  · have hfm := fo.2 h
    have e1 : fromA a lo = maxI a.s (maxI lo 0 - maxI lo 0 % 4096) := by
      unfold fromA
      rw [floorA_eq' (by unfold maxI In64; split <;> omega)]
    have e2 : toA a hi = minI a.e (if hi > 2097152 then 2097152 else hi + (-hi) % 4096) := by
      unfold toA
      by_cases h2 : hi > 2097152
      · rw [if_pos h2]
        unfold ceilA
        rw [if_pos h2]
      · rw [if_neg h2, ceilA_eq (by omega) (by omega)]
    have hp : hasPart a lo hi = decide (fromA a lo < toA a hi) := by
      have hb : (!formed a || decide (hi ≤ a.s) || decide (lo ≥ a.e) || decide (lo ≥ hi)) = false := by
        have d1 : decide (hi ≤ a.s) = false := decide_eq_false (by omega)
        have d2 : decide (lo ≥ a.e) = false := decide_eq_false (by omega)
        have d3 : decide (lo ≥ hi) = false := decide_eq_false (by omega)
        rw [hfm, d1, d2, d3]
        rfl
      unfold hasPart
      rw [hb, if_neg (by simp), Bool.eq_iff_iff]
      simp only [Bool.not_eq_true', decide_eq_false_iff_not, decide_eq_true_eq]
      omega
    have hin : ∀ x, x % 4096 = 0 → (fromA a lo ≤ x ∧ x < toA a hi ↔ inA a x ∧ Touch x lo hi) := by
      intro x hx
      rw [e1, e2]
      unfold inA Touch maxI minI
      constructor
      · intro hh
        revert hh
        repeat' split
        all_goals omega
      · intro hh
        revert hh
        repeat' split
        all_goals omega
    refine ⟨fun hp' => ?_, fun hp' x hx hi' ht => ?_⟩
    · rw [hp] at hp'
      have hlt := of_decide_eq_true hp'
      have f1 : a.s ≤ fromA a lo := by rw [e1]; unfold maxI; split <;> omega
      have f2 : toA a hi ≤ a.e := by rw [e2]; unfold minI; split <;> omega
      have f3 : fromA a lo % 4096 = 0 := by rw [e1]; unfold maxI; repeat' split
                                            all_goals omega
      have f4 : toA a hi % 4096 = 0 := by rw [e2]; unfold minI; repeat' split
                                          all_goals omega
      have hpa : partA a lo hi = ⟨fromA a lo, toA a hi, a.p, a.sh, a.b, offA a (fromA a lo)⟩ := by
        unfold partA
        rw [if_pos (by rw [hp]; exact hp')]
      rw [hpa]
      refine ⟨⟨fo.1 (formed_sub hfm f1 hlt f2 f3 f4), f1, f2, fun x => ?_⟩, hin⟩
      unfold ext
      simp only [At.mk.injEq, true_and]
      unfold offP
      simp only
      split
      · rfl
      · rename_i hb
        rw [offA_eq hfm (by omega) (by omega), if_neg hb]
        omega
    · rw [hp] at hp'
      have := (hin x hx).2 ⟨hi', ht⟩
      have := of_decide_eq_false hp'
      omega
def Parts (f : Ar → List Ar) (P : Int → Prop) : Prop := ∀ a, Fo a → (f a = [] ∨ ∃ a', f a = [a'] ∧ SubA a' a) ∧ ∀ x, x % 4096 = 0 → ((∃ a' ∈ f a, inA a' x) ↔ inA a x ∧ P x)
theorem parts_mem {f : Ar → List Ar} {P : Int → Prop} (hf : Parts f P) {a a' : Ar} (ha : Fo a) (h : a' ∈ f a) : SubA a' a := by
  rcases (hf a ha).1 with e | ⟨b, e, hs⟩
  · rw [e] at h; cases h
  · rw [e] at h; rw [List.mem_singleton.1 h]; exact hs
theorem parts_has {f : Ar → List Ar} {P : Int → Prop} (hf : Parts f P) {l : List Ar} (hl : Fm l) {x : Int} {t : At} (hx : x % 4096 = 0) : Has (l.flatMap f) x t ↔ Has l x t ∧ P x := by
  rw [has_flat]
  constructor
  · rintro ⟨a, ha, a', h1, h2, h3⟩
    have fa := fo.1 (hl a ha)
    obtain ⟨g1, g2⟩ := ((hf a fa).2 x hx).1 ⟨a', h1, h2⟩
    exact ⟨⟨a, ha, g1, by rw [← (parts_mem hf fa h1).x]; exact h3⟩, g2⟩
  · rintro ⟨⟨a, ha, h1, h2⟩, hp⟩
    have fa := fo.1 (hl a ha)
    obtain ⟨a', g1, g2⟩ := ((hf a fa).2 x hx).2 ⟨h1, hp⟩
    exact ⟨a, ha, a', g1, g2, by rw [(parts_mem hf fa g1).x]; exact h2⟩
theorem parts_fm {f : Ar → List Ar} {P : Int → Prop} (hf : Parts f P) {l : List Ar} (hl : Fm l) : Fm (l.flatMap f) := fun b hb => by
  obtain ⟨a, ha, h⟩ := List.mem_flatMap.1 hb
  exact fo.2 (parts_mem hf (fo.1 (hl a ha)) h).fo
theorem parts_one {f : Ar → List Ar} {P : Int → Prop} (hf : Parts f P) {R : Ar → Ar → Prop} {l : List Ar} (hl : Fm l) : ∀ a ∈ l, (f a).Pairwise R := fun a ha => by
  rcases (hf a (fo.1 (hl a ha))).1 with e | ⟨b, e, _⟩
  · rw [e]; exact List.Pairwise.nil
  · rw [e]; exact List.pairwise_singleton _ _
theorem parts_ok {f : Ar → List Ar} {P : Int → Prop} (hf : Parts f P) {l : List Ar} (hl : Ok l) : Ok (l.flatMap f) := by
  refine ⟨parts_fm hf hl.1, List.pairwise_flatMap.2 ⟨parts_one hf hl.1, ?_⟩⟩
  refine List.Pairwise.imp_of_mem ?_ hl.2
  intro a b ha hb hab a' ha' b' hb'
  have h1 := parts_mem hf (fo.1 (hl.1 a ha)) ha'
  have h2 := parts_mem hf (fo.1 (hl.1 b hb)) hb'
  have := h1.e; have := h2.s
  omega
theorem parts_rt {f : Ar → List Ar} {P : Int → Prop} (hf : Parts f P) {l : List Ar} (hl : Rt l) : Rt (l.flatMap f) := by
  refine ⟨parts_fm hf hl.1, List.pairwise_flatMap.2 ⟨parts_one hf hl.1, ?_⟩⟩
  refine List.Pairwise.imp_of_mem ?_ hl.2
  intro a b ha hb hab a' ha' b' hb'
  have fa := fo.1 (hl.1 a ha)
  have fb := fo.1 (hl.1 b hb)
  have h1 := parts_mem hf fa ha'
  have h2 := parts_mem hf fb hb'
  have e1 := h1.e; have e2 := h2.s; have e3 := hab.1
  refine ⟨by omega, ?_⟩
  cases hg : goesA a' b' with
  | false => rfl
  | true =>
    obtain ⟨_, _, k3, k4⟩ := goes_ext.1 hg
    have : goesA a b = true := goes_ext.2 ⟨fa, fb, by omega, by
      have q1 : a'.e = a.e := by omega
      have q2 : b'.s = b.s := by omega
      rw [h1.x, h2.x, q1, q2] at k4
      exact k4⟩
    rw [hab.2] at this
    cases this
theorem parts_in {f : Ar → List Ar} {P : Int → Prop} (hf : Parts f P) {l : List Ar} (hl : Fm l) {b : Ar} (hb : b ∈ l.flatMap f) : Fo b ∧ P b.s ∧ P (b.e - 4096) := by
  obtain ⟨a, ha, h⟩ := List.mem_flatMap.1 hb
  have fa := fo.1 (hl a ha)
  have hs := parts_mem hf fa h
  have := hs.fo.lt; have := hs.fo.s0; have := hs.fo.e0
  exact ⟨hs.fo, (((hf a fa).2 b.s hs.fo.s0).1 ⟨b, h, by omega, by omega⟩).2, (((hf a fa).2 (b.e - 4096) (by omega)).1 ⟨b, h, by omega, by omega⟩).2⟩
theorem ahead_parts {f : Int} (h0 : f % 4096 = 0) : Parts (aheadA f) (fun x => x < f) := by
  intro a ha
  have := ha.s0; have := ha.e0; have := ha.lo; have := ha.hi; have := ha.lt
  obtain ⟨h1, h2⟩ := part_spec ha 65536 (maxI f 65536)
  unfold aheadA
  by_cases hs : f > a.s
  · have hm : maxI f 65536 = f := by unfold maxI; rw [if_neg (by omega)]
    rw [hm] at h1 h2 ⊢
    have hd : decide (f > a.s) = true := by simpa using hs
    rw [hd, Bool.and_true]
    cases hp : hasPart a 65536 f with
    | true =>
      obtain ⟨g1, g2⟩ := h1 hp
      rw [if_pos rfl]
      refine ⟨.inr ⟨_, rfl, g1⟩, fun x hx => ?_⟩
      have : (∃ a' ∈ [partA a 65536 f], inA a' x) ↔ inA (partA a 65536 f) x := ⟨fun ⟨a', h, k⟩ => by rw [List.mem_singleton.1 h] at k; exact k, fun h => ⟨_, List.mem_singleton.2 rfl, h⟩⟩
      rw [this, g2 x hx]
      unfold Touch inA
      omega
    | false =>
      rw [if_neg (by simp)]
      refine ⟨.inl rfl, fun x hx => ⟨fun ⟨a', h, _⟩ => (by cases h), fun ⟨k1, k2⟩ => (h2 hp x hx k1 ?_).elim⟩⟩
      have := k1.1
      unfold Touch
      omega
  · have hd : decide (f > a.s) = false := by simpa using hs
    rw [hd, Bool.and_false, if_neg (by simp)]
    refine ⟨.inl rfl, fun x hx => ⟨fun ⟨a', h, _⟩ => (by cases h), fun ⟨k1, k2⟩ => ?_⟩⟩
    have := k1.1
    omega
theorem behind_parts {g : Int} (h0 : g % 4096 = 0 ∨ 2097152 ≤ g) : Parts (behindA g) (fun x => g ≤ x) := by
  intro a ha
  have := ha.s0; have := ha.e0; have := ha.lo; have := ha.hi; have := ha.lt
  obtain ⟨h1, h2⟩ := part_spec ha (maxI g 65536) 2097152
  unfold behindA
  by_cases hs : g < a.e
  · have hm : ∀ x, inA a x → x % 4096 = 0 → (Touch x (maxI g 65536) 2097152 ↔ g ≤ x) := by
      intro x hx hx0
      have := hx.1; have := hx.2
      unfold Touch maxI
      split <;> omega
    have hd : decide (g < a.e) = true := by simpa using hs
    rw [hd, Bool.and_true]
    cases hp : hasPart a (maxI g 65536) 2097152 with
    | true =>
      obtain ⟨g1, g2⟩ := h1 hp
      rw [if_pos rfl]
      refine ⟨.inr ⟨_, rfl, g1⟩, fun x hx => ?_⟩
      have : (∃ a' ∈ [partA a (maxI g 65536) 2097152], inA a' x) ↔ inA (partA a (maxI g 65536) 2097152) x := ⟨fun ⟨a', h, k⟩ => by rw [List.mem_singleton.1 h] at k; exact k, fun h => ⟨_, List.mem_singleton.2 rfl, h⟩⟩
      rw [this, g2 x hx]
      exact ⟨fun ⟨k1, k2⟩ => ⟨k1, (hm x k1 hx).1 k2⟩, fun ⟨k1, k2⟩ => ⟨k1, (hm x k1 hx).2 k2⟩⟩
    | false =>
      rw [if_neg (by simp)]
      exact ⟨.inl rfl, fun x hx => ⟨fun ⟨a', h, _⟩ => (by cases h), fun ⟨k1, k2⟩ => (h2 hp x hx k1 ((hm x k1 hx).2 k2)).elim⟩⟩
  · have hd : decide (g < a.e) = false := by simpa using hs
    rw [hd, Bool.and_false, if_neg (by simp)]
    refine ⟨.inl rfl, fun x hx => ⟨fun ⟨a', h, _⟩ => (by cases h), fun ⟨k1, k2⟩ => ?_⟩⟩
    have := k1.2
    omega
/-! ### Cut, Put, Set -/
theorem touch_iff {x lo hi : Int} (hlo : In64 lo) (hhi : In64 hi) (hx : x % 4096 = 0) (hr : 65536 ≤ x ∧ x < 2097152) (h : lo < hi) : (x < floorA lo ∨ toI hi ≤ x) ↔ ¬ Touch x lo hi := by
  rw [floorA_eq' hlo]
  obtain ⟨h1, h2⟩ := toI_eq hhi
  unfold Touch
  by_cases hc : hi < 2097152
  · rw [h1 hc]; omega
  · rw [h2 hc]; omega
theorem floor0 {lo : Int} (h : In64 lo) : floorA lo % 4096 = 0 := by rw [floorA_eq' h]; omega
theorem to0 {hi : Int} (h : In64 hi) : toI hi % 4096 = 0 ∨ 2097152 ≤ toI hi := by
  obtain ⟨h1, h2⟩ := toI_eq h
  by_cases hc : hi < 2097152
  · rw [h1 hc]; omega
  · rw [h2 hc]; omega
theorem floor_lt_to {lo hi : Int} (hlo : In64 lo) (hhi : In64 hi) (h : lo < hi) : floorA lo < toI hi := by
  rw [floorA_eq' hlo]
  obtain ⟨h1, h2⟩ := toI_eq hhi
  by_cases hc : hi < 2097152
  · rw [h1 hc]; omega
  · rw [h2 hc]; omega
theorem three_ok {l m : List Ar} (hl : Ok l) {f g : Int} (hf : f % 4096 = 0) (hg : g % 4096 = 0 ∨ 2097152 ≤ g) (hfg : f ≤ g) (hm : Ok m) (hm2 : ∀ b ∈ m, f ≤ b.s ∧ (b.e ≤ g)) : Ok (aheadL l f ++ m ++ behindL l g) := by
  have pa := ahead_parts hf
  have pb := behind_parts hg
  have oa := parts_ok pa hl
  have ob := parts_ok pb hl
  have ea : ∀ b ∈ aheadL l f, b.e ≤ f := fun b hb => by
    obtain ⟨h1, _, h3⟩ := parts_in pa hl.1 hb
    have := h1.e0
    omega
  have eb : ∀ b ∈ behindL l g, g ≤ b.s := fun b hb => (parts_in pb hl.1 hb).2.1
  refine ⟨fun b hb => ?_, List.pairwise_append.2 ⟨List.pairwise_append.2 ⟨oa.2, hm.2, fun y hy z hz => ?_⟩, ob.2, fun y hy z hz => ?_⟩⟩
  · rcases List.mem_append.1 hb with h | h
    · rcases List.mem_append.1 h with h | h
      · exact oa.1 b h
      · exact hm.1 b h
    · exact ob.1 b h
  · have := ea y hy
    have := (hm2 z hz).1
    omega
  · have := eb z hz
    rcases List.mem_append.1 hy with h | h
    · have := ea y h; omega
    · have := (hm2 y h).2; omega
theorem has_ahead {l : List Ar} (hl : Fm l) {f : Int} (hf : f % 4096 = 0) {x : Int} {t : At} (hx : x % 4096 = 0) : Has (aheadL l f) x t ↔ Has l x t ∧ x < f := parts_has (ahead_parts hf) hl hx
theorem has_behind {l : List Ar} (hl : Fm l) {g : Int} (hg : g % 4096 = 0 ∨ 2097152 ≤ g) {x : Int} {t : At} (hx : x % 4096 = 0) : Has (behindL l g) x t ↔ Has l x t ∧ g ≤ x := parts_has (behind_parts hg) hl hx
theorem cut_spec {l : List Ar} (hl : Rt l) {lo hi : Int} (hlo : In64 lo) (hhi : In64 hi) : Rt (cutL l lo hi) ∧ ∀ x t, x % 4096 = 0 → (Has (cutL l lo hi) x t ↔ Has l x t ∧ ¬ Touch x lo hi) := by
  unfold cutL
  rw [if_pos (rt_iff.2 hl)]
  by_cases h : lo ≥ hi
  · unfold aroundA aroundB
    rw [if_pos h, if_pos h, List.append_nil]
    exact ⟨hl, fun x t hx => ⟨fun h1 => ⟨h1, fun h2 => by have := h2.1; omega⟩, fun h1 => h1.1⟩⟩
  · have hlt : lo < hi := by omega
    unfold aroundA aroundB
    rw [if_neg h, if_neg h]
    have hf := floor0 hlo
    have hg := to0 hhi
    have hfg := floor_lt_to hlo hhi hlt
    have ra := parts_rt (ahead_parts hf) hl
    have rb := parts_rt (behind_parts hg) hl
    refine ⟨⟨fun b hb => ?_, List.pairwise_append.2 ⟨ra.2, rb.2, fun y hy z hz => ?_⟩⟩, fun x t hx => ?_⟩
    · rcases List.mem_append.1 hb with h | h
      · exact ra.1 b h
      · exact rb.1 b h
    · obtain ⟨h1, _, h3⟩ := parts_in (ahead_parts hf) hl.1 hy
      have h4 := (parts_in (behind_parts hg) hl.1 hz).2.1
      have := h1.e0
      refine ⟨by omega, ?_⟩
      cases hgo : goesA y z with
      | false => rfl
      | true => have := (goes_ext.1 hgo).2.2.1; omega
    · rw [has_app, has_ahead hl.1 hf hx, has_behind hl.1 hg hx, ← and_or_left]
      exact ⟨fun ⟨h1, h2⟩ => ⟨h1, (touch_iff hlo hhi hx (has_range hl.1 h1) hlt).1 h2⟩, fun ⟨h1, h2⟩ => ⟨h1, (touch_iff hlo hhi hx (has_range hl.1 h1) hlt).2 h2⟩⟩
theorem fo_in {a : Ar} (h : Fo a) : In64 a.s ∧ In64 a.e := by
  have := h.lo; have := h.hi; have := h.lt
  unfold In64
  omega
theorem touch_ar {a : Ar} (h : Fo a) {x : Int} (hx : x % 4096 = 0) : Touch x a.s a.e ↔ inA a x := by
  have := h.s0; have := h.e0; have := h.lt
  unfold Touch inA
  omega
theorem put_spec {l : List Ar} (hl : Rt l) {a : Ar} (ha : Fo a) : Rt (putL l a) ∧ ∀ x t, x % 4096 = 0 → (Has (putL l a) x t ↔ (inA a x ∧ ext a x = t) ∨ (Has l x t ∧ ¬ inA a x)) := by
  have hs := (fo_in ha).1
  have he := (fo_in ha).2
  have := ha.lt; have := ha.s0; have := ha.e0; have := ha.hi
  have hfs : floorA a.s = a.s := by rw [floorA_eq' hs]; omega
  have hte : toI a.e = a.e := by
    obtain ⟨h1, h2⟩ := toI_eq he
    by_cases hc : a.e < 2097152
    · rw [h1 hc]; omega
    · exact h2 hc
  unfold putL
  rw [rt_iff.2 hl, fo.2 ha, Bool.and_true, if_pos rfl]
  unfold aroundA aroundB
  rw [if_neg (by omega), if_neg (by omega)]
  have ok := three_ok (m := [a]) hl.ok (floor0 hs) (to0 he) (by omega) ⟨fun b hb => by rw [List.mem_singleton.1 hb]; exact fo.2 ha, List.pairwise_singleton _ _⟩ (fun b hb => by rw [List.mem_singleton.1 hb]; omega)
  obtain ⟨j1, j2⟩ := joined_rt ok
  refine ⟨j1, fun x t hx => ?_⟩
  rw [j2, has_app, has_app, has_one, has_ahead hl.1 (floor0 hs) hx, has_behind hl.1 (to0 he) hx, hfs, hte]
  unfold inA
  constructor
  · rintro ((⟨h1, h2⟩ | h1) | ⟨h1, h2⟩)
    · exact .inr ⟨h1, by omega⟩
    · exact .inl h1
    · exact .inr ⟨h1, by omega⟩
  · rintro (h1 | ⟨h1, h2⟩)
    · exact .inl (.inr h1)
    · by_cases hxs : x < a.s
      · exact .inl (.inl ⟨h1, hxs⟩)
      · exact .inr ⟨h1, by omega⟩
end Go.Proofs.Ytbcicjmepojlnaa.Eng
/- What the reference's Of and Made come to, page by page; how many areas there are; no condition but those typed. -/
namespace Go.Proofs.Ytbcicjmepojlnaa.Eng
open Go Go.RowKit
set_option autoImplicit false
set_option linter.unusedSimpArgs false
set_option linter.unusedVariables false
theorem nthP_set {s : List Pg} {i : Nat} (p : Pg) (h : i < s.length) (q : Nat) : nthP (s.set i p) q = if q = i then p else nthP s q := by
  unfold nthP
  rw [List.getD_eq_getElem?_getD, List.getD_eq_getElem?_getD, List.getElem?_set]
  by_cases hq : i = q
  · subst hq
    rw [if_pos rfl, if_pos h, if_pos rfl]
    rfl
  · rw [if_neg hq, if_neg (fun e => hq e.symm)]
theorem refAttr_ext {a : Ar} (h : Fo a) {q : Int} (h1 : a.s ≤ 4096 * q) (h2 : 4096 * q < a.e) : refAttr a q = ext a (4096 * q) := by
  have := h.s0; have := h.e0
  rw [(refAttr_in (fo.2 h) (q := q) (by omega) (by omega)).2]
  unfold ext offP
  simp only [At.mk.injEq, true_and]
  split
  · rfl
  · omega
def pgOf (a : Ar) (q : Nat) : Pg := ⟨true, ext a (4096 * q)⟩
theorem ofA_get {a : Ar} (h : Fo a) {s : List Pg} (hs : s.length = 512) : ∀ (k : Nat), k ≤ lenA a → ∀ q : Nat, nthP (ofA a s k) q = if a.s ≤ 4096 * (q : Int) ∧ 4096 * (q : Int) < a.s + 4096 * k then pgOf a q else nthP s q
  | 0, _, q => by
    rw [if_neg (by omega)]
    rfl
  | k + 1, hk, q => by
    have := h.s0; have := h.e0; have := h.lo; have := h.hi; have := h.lt
    have hk' : (k : Int) < a.e / 4096 - a.s / 4096 := by unfold lenA at hk; omega
    have hp : (pG a k).toNat < (ofA a s k).length := by rw [ofA_len, hs]; unfold pG; omega
    show nthP (ofStep a (ofA a s k) k) q = _
    unfold ofStep
    rw [nthP_set _ hp, ofA_get h hs k (by omega) q]
    by_cases hq : q = (pG a k).toNat
    · have hq' : (q : Int) = a.s / 4096 + k := by rw [hq]; unfold pG; omega
      rw [if_pos hq, if_pos (by omega), refAttr_ext h (by unfold pG; omega) (by unfold pG; omega)]
      unfold pgOf
      rw [hq']
      rfl
    · have hq' : (q : Int) ≠ a.s / 4096 + k := by intro e; apply hq; unfold pG; omega
      rw [if_neg hq]
      by_cases hc : a.s ≤ 4096 * (q : Int) ∧ 4096 * (q : Int) < a.s + 4096 * k
      · rw [if_pos hc, if_pos (by omega)]
      · rw [if_neg hc, if_neg (by omega)]
def Paints (f : List Pg → Ar → List Pg) : Prop := ∀ s a, Fo a → s.length = 512 → (f s a).length = 512 ∧ ∀ q : Nat, q < 512 → (inA a (4096 * q) → nthP (f s a) q = pgOf a q) ∧ (¬ inA a (4096 * q) → nthP (f s a) q = nthP s q)
theorem of_paints : Paints fun s a => ofA a s (lenA a) := by
  intro s a h hs
  have := h.s0; have := h.e0; have := h.lt
  refine ⟨by rw [ofA_len, hs], fun q hq => ?_⟩
  have h1 := ofA_get h hs (lenA a) (Nat.le_refl _) q
  have h2 : a.s + 4096 * (lenA a : Int) = a.e := by unfold lenA; omega
  rw [h2] at h1
  exact ⟨fun hi => h1.trans (if_pos hi), fun hi => h1.trans (if_neg hi)⟩
theorem paint_not {f : List Pg → Ar → List Pg} (hf : Paints f) {q : Nat} (hq : q < 512) : ∀ (l : List Ar) (s : List Pg), Fm l → s.length = 512 → (∀ a ∈ l, ¬ inA a (4096 * q)) → nthP (l.foldl f s) q = nthP s q ∧ (l.foldl f s).length = 512
  | [], s, _, hs, _ => ⟨rfl, hs⟩
  | a :: l, s, hl, hs, hn => by
    obtain ⟨h1, h2⟩ := hf s a (fo.1 (hl a (List.mem_cons_self ..))) hs
    have := paint_not hf hq l (f s a) (fun c hc => hl c (List.mem_cons_of_mem _ hc)) h1 fun c hc => hn c (List.mem_cons_of_mem _ hc)
    rw [List.foldl_cons]
    exact ⟨this.1.trans ((h2 q hq).2 (hn a (List.mem_cons_self ..))), this.2⟩
theorem paint_yes {f : List Pg → Ar → List Pg} (hf : Paints f) {q : Nat} (hq : q < 512) : ∀ (l : List Ar) (s : List Pg), Ok l → s.length = 512 → ∀ a ∈ l, inA a (4096 * q) → nthP (l.foldl f s) q = pgOf a q
  | b :: l, s, hl, hs, a, ha, hi => by
    obtain ⟨h1, h2⟩ := hf s b (fo.1 (hl.1 b (List.mem_cons_self ..))) hs
    have pl := List.pairwise_cons.1 hl.2
    have hl' : Ok l := ⟨fun c hc => hl.1 c (List.mem_cons_of_mem _ hc), pl.2⟩
    rw [List.foldl_cons]
    rcases List.mem_cons.1 ha with rfl | h
    · rw [(paint_not hf hq l _ hl'.1 h1 fun c hc hic => by have := pl.1 c hc; have := hi.2; have := hic.1; omega).1]
      exact (h2 q hq).1 hi
    · exact paint_yes hf hq l _ hl' h1 a h hi
theorem noS_get (q : Nat) : nthP noS q = noPg := by
  unfold nthP noS
  rw [List.getD_eq_getElem?_getD, List.getElem?_replicate]
  split <;> rfl
theorem painted {f : List Pg → Ar → List Pg} (hf : Paints f) {l : List Ar} (hl : Ok l) : (∀ x t, x % 4096 = 0 → (PHas (l.foldl f noS) x t ↔ Has l x t)) ∧ ∀ q : Nat, q < 512 → (nthP (l.foldl f noS) q).is = false → nthP (l.foldl f noS) q = noPg := by
  have two : ∀ q : Nat, q < 512 → (∃ a ∈ l, inA a (4096 * q) ∧ nthP (l.foldl f noS) q = pgOf a q) ∨ ((∀ a ∈ l, ¬ inA a (4096 * q)) ∧ nthP (l.foldl f noS) q = noPg) := by
    intro q hq
    by_cases h : ∃ a ∈ l, inA a (4096 * q)
    · obtain ⟨a, ha, hi⟩ := h
      exact .inl ⟨a, ha, hi, paint_yes hf hq l noS hl noS_len a ha hi⟩
    · have hn : ∀ a ∈ l, ¬ inA a (4096 * q) := fun a ha hi => h ⟨a, ha, hi⟩
      exact .inr ⟨hn, by rw [(paint_not hf hq l noS hl.1 noS_len hn).1, noS_get]⟩
  refine ⟨fun x t hx => ⟨?_, ?_⟩, fun q hq hi => ?_⟩
  · rintro ⟨q, rfl, h0, hq, h1, h2⟩
    rcases two q hq with ⟨a, ha, hi, e⟩ | ⟨_, e⟩
    · rw [e] at h2
      exact ⟨a, ha, hi, h2⟩
    · rw [e] at h1
      cases h1
  · rintro ⟨a, ha, hi, h⟩
    have fa := fo.1 (hl.1 a ha)
    have := fa.lo; have := fa.hi; have := hi.1; have := hi.2
    have hxq : x = 4096 * ((x / 4096).toNat : Int) := by omega
    refine ⟨(x / 4096).toNat, hxq, by omega, by omega, ?_⟩
    rcases two (x / 4096).toNat (by omega) with ⟨b, hb, hi', e⟩ | ⟨hn, _⟩
    · rw [e]
      refine ⟨rfl, ?_⟩
      show ext b (4096 * ((x / 4096).toNat : Int)) = t
      rw [← hxq] at hi' ⊢
      exact has_fun hl ⟨b, hb, hi', rfl⟩ ⟨a, ha, hi, h⟩
    · exact (hn a ha (by rw [← hxq]; exact hi)).elim
  · rcases two q hq with ⟨a, ha, _, e⟩ | ⟨_, e⟩
    · rw [e] at hi
      cases hi
    · exact e
theorem of_spec {l : List Ar} (hl : Ok l) : (∀ x t, x % 4096 = 0 → (PHas (ofL l) x t ↔ Has l x t)) ∧ ∀ q : Nat, q < 512 → (nthP (ofL l) q).is = false → nthP (ofL l) q = noPg := painted of_paints hl
/-! ### Made -/
theorem over_get (s t : List Pg) (hs : s.length = 512) : ∀ (n : Nat), n ≤ 512 → ∀ q : Nat, nthP (overN s t n) q = if q < n ∧ (nthP t q).is = true then nthP t q else nthP s q
  | 0, _, q => by rw [if_neg (by omega)]; rfl
  | n + 1, hn, q => by
    have ih := over_get s t hs n (by omega) q
    cases hi : (nthP t n).is with
    | true =>
      rw [over_yes hi, nthP_set _ (by rw [overN_len, hs]; omega), ih]
      by_cases hq : q = n
      · subst hq
        rw [if_pos rfl, if_pos ⟨by omega, hi⟩]
      · rw [if_neg hq]
        by_cases hc : q < n ∧ (nthP t q).is = true
        · rw [if_pos hc, if_pos ⟨by omega, hc.2⟩]
        · rw [if_neg hc, if_neg (fun h => hc ⟨by omega, h.2⟩)]
    | false =>
      rw [over_no hi, ih]
      by_cases hc : q < n ∧ (nthP t q).is = true
      · rw [if_pos hc, if_pos ⟨by omega, hc.2⟩]
      · rw [if_neg hc, if_neg]
        rintro ⟨h1, h2⟩
        by_cases hq : q = n
        · subst hq; rw [hi] at h2; cases h2
        · exact hc ⟨by omega, h2⟩
theorem made_paints : Paints madeStep := by
  intro s a h hs
  rw [made_yes (fo.2 h)]
  refine ⟨by unfold overS; rw [overN_len, hs], fun q hq => ?_⟩
  have h1 : nthP (overS s (ofL [a])) q = _ := over_get s (ofL [a]) hs 512 (Nat.le_refl _) q
  have h2 := (of_paints noS a h noS_len).2 q hq
  have h3 : ofL [a] = ofA a noS (lenA a) := rfl
  rw [h1, h3]
  constructor
  · intro hi
    have e := h2.1 hi
    simp only at e
    rw [e, if_pos ⟨hq, rfl⟩]
  · intro hi
    have e := h2.2 hi
    simp only at e
    rw [e, noS_get, if_neg (by intro hh; have := hh.2; cases this)]
theorem good_paint {s : List Pg} (hs : GoodS s) (a : Ar) : GoodS (madeStep s a) := by
  cases hf : formed a with
  | false => rw [made_no hf]; exact hs
  | true =>
    have fa := fo.1 hf
    obtain ⟨h1, h2⟩ := made_paints s a fa hs.1
    refine ⟨h1, fun q hq hi => ?_⟩
    have := fa.lo; have := fa.hi; have := fa.s0
    by_cases hin : inA a (4096 * q)
    · rw [(h2 q hq).1 hin]
      exact ⟨by have := hin.1; omega, ext_good fa hin (by omega)⟩
    · rw [(h2 q hq).2 hin] at hi ⊢
      exact hs.2 q hq hi
theorem noS_good : GoodS noS := ⟨noS_len, fun q hq hi => by rw [noS_get] at hi; cases hi⟩
theorem good_fold : ∀ (l : List Ar) (s : List Pg), GoodS s → GoodS (l.foldl madeStep s)
  | [], s, hs => hs
  | a :: l, s, hs => good_fold l (madeStep s a) (good_paint hs a)
theorem madeT_good (l : List Ar) : GoodS (madeT l) := good_fold l noS noS_good
theorem made_spec (l : List Ar) : Rt (madeL l) ∧ ∀ x t, x % 4096 = 0 → (Has (madeL l) x t ↔ PHas (madeT (l.take 40)) x t) := listS_spec (madeT_good _)
/-! ### How many areas -/
end Go.Proofs.Ytbcicjmepojlnaa.Eng
/- What the laws of layer 7 come to, in plain words; no condition but those typed. -/
namespace Go.Proofs.Ytbcicjmepojlnaa.Eng
open Go Go.RowKit
set_option autoImplicit false
set_option linter.unusedSimpArgs false
set_option linter.unusedVariables false
theorem made_rt (l : List Ar) : Rt (madeL l) := (made_spec l).1
theorem rt_nil : Rt [] := ⟨fun a h => (by cases h), List.Pairwise.nil⟩
theorem rt_len {l : List Ar} (h : Rt l) : l.length ≤ 496 := by
  have hs : GoodS (ofL l) := ⟨ofL_len l, fun q hq hi => by
    by_cases he : ∃ a ∈ l, inA a (4096 * q)
    · obtain ⟨a, ha, hin⟩ := he
      have fa := fo.1 (h.1 a ha)
      have e : nthP (ofL l) q = pgOf a q := paint_yes of_paints hq l noS h.ok noS_len a ha hin
      rw [e]
      have := fa.lo; have := hin.1
      exact ⟨by omega, ext_good fa hin (by omega)⟩
    · have e : nthP (ofL l) q = nthP noS q := (paint_not of_paints hq l noS h.1 noS_len fun a ha hin => he ⟨a, ha, hin⟩).1
      rw [e, noS_get] at hi
      cases hi⟩
  obtain ⟨h1, h2⟩ := listS_spec hs
  have : listS (ofL l) = l := rt_ext h1 h fun x t hx => (h2 x t hx).trans ((of_spec h.ok).1 x t hx)
  rw [← this]
  exact listS_le _
theorem around_bd (l : List Ar) (hl : l.length ≤ 496) (lo hi : Int) : (aroundA l lo hi).length ≤ 496 ∧ (aroundB l lo hi).length ≤ 496 := by
  unfold aroundA aroundB
  have := ahead_le l (floorA lo)
  have := behind_le l (toI hi)
  split
  · exact ⟨hl, Nat.zero_le _⟩
  · omega
theorem cut_bd (l : List Ar) (lo hi : Int) : (cutL l lo hi).length ≤ 2000 := by
  unfold cutL
  split
  · rename_i h
    have := around_bd l (rt_len (rt_iff.1 h)) lo hi
    rw [List.length_append]
    omega
  · exact Nat.zero_le _
theorem put_bd (l : List Ar) (a : Ar) : (putL l a).length ≤ 2000 := by
  unfold putL
  split
  · rename_i h
    rw [Bool.and_eq_true] at h
    have := around_bd l (rt_len (rt_iff.1 h.1)) a.s a.e
    have := joined_le (aroundA l a.s a.e ++ [a] ++ aroundB l a.s a.e)
    rw [List.length_append, List.length_append] at this
    have e : [a].length = 1 := rfl
    omega
  · exact Nat.zero_le _
theorem bd {n m : Nat} (h : n ≤ 2000) (hm : 2000 ≤ m) : n ≤ m := Nat.le_trans h hm
end Go.Proofs.Ytbcicjmepojlnaa.Eng
/- Covered, found, faults page by page; the reference's protecting; no condition but those typed. -/
namespace Go.Proofs.Ytbcicjmepojlnaa.Eng
open Go Go.RowKit
set_option autoImplicit false
set_option linter.unusedSimpArgs false
set_option linter.unusedVariables false
/-! ### Pages of right lists -/
theorem of_has {l : List Ar} (hl : Ok l) {q : Nat} (h0 : 16 ≤ q) (hq : q < 512) : (nthP (ofL l) q).is = true → Has l (4096 * q) (nthP (ofL l) q).t := fun h =>
  ((of_spec hl).1 _ _ (by omega)).1 ⟨q, rfl, h0, hq, h, rfl⟩
theorem has_of {l : List Ar} (hl : Ok l) {q : Nat} {t : At} (h : Has l (4096 * q) t) : (nthP (ofL l) q).is = true ∧ (nthP (ofL l) q).t = t := by
  obtain ⟨q', he, _, _, h1, h2⟩ := ((of_spec hl).1 _ _ (by omega)).2 h
  obtain rfl : q = q' := by omega
  exact ⟨h1, h2⟩
theorem idx_spec {l : List Ar} (hl : Fm l) (x : Int) : (idxI l x ≥ 0 ↔ ∃ a ∈ l, inA a x) ∧ (idxI l x ≥ 0 → idxL l x < l.length ∧ inA (nthA l (idxL l x)) x) := by
  have hh : ∀ i, i < l.length → (hasA (nthA l i) x = true ↔ inA (nthA l i) x) := fun i hi => by
    unfold hasA inA
    rw [hl _ (nthA_mem hi)]
    simp
  by_cases hex : ∃ i, i < l.length ∧ hasA (nthA l i) x = true
  · obtain ⟨i, hi, hy⟩ := hex
    have hsome : ((List.range l.length).find? fun i => hasA (nthA l i) x).isSome = true := by
      rw [List.find?_isSome]
      exact ⟨i, List.mem_range.2 hi, hy⟩
    obtain ⟨j, hj⟩ := Option.isSome_iff_exists.1 hsome
    have hj2 := List.find?_some hj
    have hj3 := List.mem_range.1 (List.mem_of_find?_eq_some hj)
    have e : idxL l x = j := by unfold idxL; rw [hj]; rfl
    have e2 : idxI l x = (j : Int) := by unfold idxI; rw [e, if_pos (by simpa using hj3)]
    rw [e2, e]
    have hin := (hh j hj3).1 hj2
    exact ⟨⟨fun _ => ⟨_, nthA_mem hj3, hin⟩, fun _ => by omega⟩, fun _ => ⟨hj3, hin⟩⟩
  · have hn : ∀ j : Nat, j < l.length → hasA (nthA l j) x = false := fun j hj => by
      cases hb : hasA (nthA l j) x
      · rfl
      · exact absurd ⟨j, hj, hb⟩ hex
    rw [idx_no hn]
    refine ⟨⟨fun h => by omega, ?_⟩, fun h => by omega⟩
    rintro ⟨a, ha, hin⟩
    obtain ⟨i, hi, rfl⟩ := List.getElem_of_mem ha
    rw [← nthA_elem hi] at hin
    have := (hh i hi).2 hin
    rw [hn i hi] at this
    cases this
theorem found_spec {l : List Ar} (hl : Rt l) (x : Int) : (foundL l x = true ↔ ∃ a ∈ l, inA a x) ∧ (foundL l x = true → findL l x ∈ l ∧ inA (findL l x) x) := by
  have hr : rightL l = true := of_rt hl
  obtain ⟨h1, h2⟩ := idx_spec hl.1 x
  have e : foundL l x = true ↔ idxI l x ≥ 0 := by
    unfold foundL
    rw [hr, Bool.and_true, decide_eq_true_eq]
  refine ⟨e.trans h1, fun hf => ?_⟩
  obtain ⟨h3, h4⟩ := h2 (e.1 hf)
  unfold findL
  rw [if_pos hf]
  exact ⟨nthA_mem h3, h4⟩
/-! ### A fault's reads, its bits -/
theorem adr_q {x : Int} (h1 : decide (x < 65536) = false) (h2 : decide (2097152 ≤ x) = false) : IntKind.i64.wrap (Int.tdiv x 4096) = (((x / 4096).toNat : Nat) : Int) ∧ (x / 4096).toNat < 512 := by
  have a1 := of_decide_eq_false h1
  have a2 := of_decide_eq_false h2
  have e : w64 (Int.tdiv x 4096) = x / 4096 := by
    rw [tdiv_pos (by omega)]
    exact w64_id (by unfold In64; omega)
  exact ⟨e.trans (by omega), by omega⟩
theorem adr_in {x : Int} (h1 : decide (x < 65536) = false) (h2 : decide (2097152 ≤ x) = false) : (0 : Int) ≤ IntKind.i64.wrap (Int.tdiv x 4096) ∧ IntKind.i64.wrap (Int.tdiv x 4096) < ((512 : Nat) : Int) := by
  obtain ⟨e, h⟩ := adr_q h1 h2
  rw [e]
  exact page_ix h
theorem adr_is {s : List Pg} (hs : s.length = 512) {x : Int} (h1 : decide (x < 65536) = false) (h2 : decide (2097152 ≤ x) = false) : (encS s)[0 + (IntKind.i64.wrap (Int.tdiv x 4096)).toNat * 5]? = some (.v (.bool (nthP s (x / 4096).toNat).is)) := by
  obtain ⟨e, h⟩ := adr_q h1 h2
  rw [e]
  exact page_is' hs h
theorem adr_attr {s : List Pg} (hs : s.length = 512) {x : Int} (h1 : decide (x < 65536) = false) (h2 : decide (2097152 ≤ x) = false) : takeM (encS s) (0 + (IntKind.i64.wrap (Int.tdiv x 4096)).toNat * 5 + 1) 4 = some [.v (.int .i64 (nthP s (x / 4096).toNat).t.p), .v (.bool (nthP s (x / 4096).toNat).t.sh), .v (.int .i64 (nthP s (x / 4096).toNat).t.b), .v (.int .i64 (nthP s (x / 4096).toNat).t.o)] := by
  obtain ⟨e, h⟩ := adr_q h1 h2
  rw [e]
  exact page_attr' hs h
theorem adr_attrZ {s : List Pg} (hs : s.length = 512) {x : Int} (h1 : decide (x < 65536) = false) (h2 : decide (2097152 ≤ x) = false) : takeM (putCells (List.replicate 512 [C.v (.bool false), .v (.int .i64 0), .v (.bool false), .v (.int .i64 0), .v (.int .i64 0)]).flatten 0 (encS s)) (0 + (IntKind.i64.wrap (Int.tdiv x 4096)).toNat * 5 + 1) 4 = some [.v (.int .i64 (nthP s (x / 4096).toNat).t.p), .v (.bool (nthP s (x / 4096).toNat).t.sh), .v (.int .i64 (nthP s (x / 4096).toNat).t.b), .v (.int .i64 (nthP s (x / 4096).toNat).t.o)] := by
  rw [zero_put hs]
  exact adr_attr hs h1 h2
theorem mayS_rt {l : List Ar} (h : mayS l = true) : Rt l ∧ l.length ≤ 24 := by
  unfold mayS at h
  rw [Bool.and_eq_true, decide_eq_true_eq] at h
  exact ⟨rt_of h.1, by omega⟩
theorem rt_mayS {l : List Ar} (h : Rt l) (h2 : l.length ≤ 24) : mayS l = true := by
  unfold mayS
  rw [of_rt h]
  simp
  omega
end Go.Proofs.Ytbcicjmepojlnaa.Eng
/- The reference's protecting, page by page; no condition but those typed. -/
namespace Go.Proofs.Ytbcicjmepojlnaa.Eng
open Go Go.RowKit
set_option autoImplicit false
set_option linter.unusedSimpArgs false
set_option linter.unusedVariables false
/-! ### Reads and writes -/
theorem pro_q {a : Int} (h0 : 0 ≤ a) (h : a ≤ 2097152) : IntKind.i64.wrap (Int.tdiv a 4096) = (((a / 4096).toNat : Nat) : Int) ∧ (a / 4096).toNat ≤ 512 := by
  have e : w64 (Int.tdiv a 4096) = a / 4096 := by
    rw [tdiv_pos h0]
    exact w64_id (by unfold In64; omega)
  exact ⟨e.trans (by omega), by omega⟩
theorem pro_lt {x : Int} {m q1 : Nat} (w1 : x = (q1 : Int)) (h : decide ((m : Int) < x) = true) : m < q1 := by
  have := of_decide_eq_true h
  omega
theorem pro_ge {x : Int} {m q1 : Nat} (w1 : x = (q1 : Int)) (h : decide ((m : Int) < x) = false) : q1 ≤ m := by
  have := of_decide_eq_false h
  omega
/-! ### What comes about -/
theorem of_low {l : List Ar} (hl : Fm l) {q : Nat} (hq : q < 512) (h : q < 16) (hi : (nthP (ofL l) q).is = true) : False := by
  have e : nthP (ofL l) q = nthP noS q := (paint_not of_paints hq l noS hl noS_len (fun a ha hin => by have := (fo.1 (hl a ha)).lo; have := hin.1; omega)).1
  rw [e, noS_get] at hi
  cases hi
theorem good_of {l : List Ar} (hl : Rt l) : GoodS (ofL l) := ⟨ofL_len l, fun q hq hi => by
  by_cases h16 : 16 ≤ q
  · obtain ⟨a, ha, h1, h2⟩ := of_has hl.ok h16 hq hi
    rw [← h2]
    exact ⟨h16, ext_good (fo.1 (hl.1 a ha)) h1 (by omega)⟩
  · exact (of_low hl.1 hq (by omega) hi).elim⟩
/-! ### What is asked wrongly -/
theorem kept_no {was now : List Ar} {v : Int} (h : decide ((24 : Int) < (now.length : Int)) = true) : keptL was now = was ∧ keptN now v = errA 9 := ⟨if_pos h, if_pos h⟩
theorem kept_yes {was now : List Ar} {v : Int} (h : decide ((24 : Int) < (now.length : Int)) = false) : keptL was now = now ∧ keptN now v = okA v := ⟨if_neg (by rw [h]; simp), if_neg (by rw [h]; simp)⟩
section
variable {l : List Ar} {c : Cl} {q0 q1 k : Nat}
end
end Go.Proofs.Ytbcicjmepojlnaa.Eng
/- Contracts of functions (printed by genx.py of this work): what each hands back; condition: as its 'hside' says. -/
namespace Go.Proofs.Ytbcicjmepojlnaa.Eng
open Go Go.RowKit
set_option linter.unusedVariables false
set_option linter.unusedSimpArgs false
theorem b_rkept : Bodied Try.prog 123 := bodied Try.func123 rfl (by decide)
def F_rkept : FunX := fun κ avs => match avs with
  | [.lst was xwas, .spc s, .val (.c (.v (.int .i64 va)))] => some (κ _ (True), (.alt ((κ _ (decide ((24 : Int) < ((listS s).length : Int))))) (xwas) (fun x => .tup [.c x, .agg [.v (.int .i64 9), .v (.int .i64 0), .v (.int .i64 0), .v (.bool false), .v (.int .i64 0), .v (.int .i64 0)]]) ((κ _ (listS s))) (fun x => .tup [.c x, .agg [.v (.int .i64 0), .v (.int .i64 (κ _ (va))), .v (.int .i64 0), .v (.bool false), .v (.int .i64 0), .v (.int .i64 0)]])))
  | _ => none
set_option maxRecDepth 100000 in
set_option maxHeartbeats 4000000 in
theorem k_rkept (was : List Ar) (s : List Pg) (va : Int) (Awas : Option Addr) (cwas : Nat) (hside : True) (ns : s.length = 512) (w : World) (hwas : (Ent.rd Awas 6 was.length (encL was)).holds w) :
    Calls Try.prog 123 #[.slice Awas was.length cwas, (SV.agg (encS s)).den, (SV.c (.v (.int .i64 va))).den] w fun e w' => ∃ v H', e = .returned v.den ∧ IsX (.alt ((decide ((24 : Int) < ((listS s).length : Int)))) (.sl 200000 Awas was.length cwas) (fun x => .tup [.c x, .agg [.v (.int .i64 9), .v (.int .i64 0), .v (.int .i64 0), .v (.bool false), .v (.int .i64 0), .v (.int .i64 0)]]) ((listS s)) (fun x => .tup [.c x, .agg [.v (.int .i64 0), .v (.int .i64 (va)), .v (.int .i64 0), .v (.bool false), .v (.int .i64 0), .v (.int .i64 0)]])) v H' ∧ HSat w (fun _ => False) H' w' := by
  obtain ⟨κ, hκ⟩ : ∃ κ : Kp, κ = kid := ⟨_, rfl⟩
  have hH : HSat w (fun _ => False) (heapOf [(nilId, .rd none 1 0 []), (200000, .rd Awas 6 (κ _ was.length) (κ _ (encL was)))]) w := by
    subst hκ
    refine HSat.reads fun p hp => ?_
    simp only [List.mem_cons, List.not_mem_nil, or_false] at hp
    rcases hp with rfl | rfl
    · exact ⟨_, _, _, _, rfl, nil_holds w⟩
    · exact ⟨_, _, _, _, rfl, hwas⟩
  refine (callsP (n := 19) FTok [e_rlist hκ] mixed [] Try.func123 rfl (by kernel_rfl) #[.slice Awas was.length cwas, (SV.agg (encS s)).den, (SV.c (.v (.int .i64 va))).den] [(0, .c (.sl 200000 Awas (κ _ was.length) cwas)), (1, .agg (κ _ (encS s))), (2, .c (.v (.int .i64 va)))] _ w rfl [.tmp 6, .cell 7 31] rfl (by simp) (by subst hκ; simp [SV.den, C.den, kid]) hH (fun v H' => IsX (.alt ((κ _ (decide ((24 : Int) < ((listS s).length : Int))))) (.sl 200000 Awas (κ _ was.length) cwas) (fun x => .tup [.c x, .agg [.v (.int .i64 9), .v (.int .i64 0), .v (.int .i64 0), .v (.bool false), .v (.int .i64 0), .v (.int .i64 0)]]) ((κ _ (listS s))) (fun x => .tup [.c x, .agg [.v (.int .i64 0), .v (.int .i64 (κ _ (va))), .v (.int .i64 0), .v (.bool false), .v (.int .i64 0), .v (.int .i64 0)]])) v H') hκ ?_).mono ?_
  rotate_left
  · subst hκ; intro e w' h; exact h
  intro P' hP'
  cbv
  repeat' (first | refine And.intro ?_ ?_ | (intro _; cbv) | (refine tst_mk (fun h => ?_) (fun h => ?_) <;> cbv) | (refine LookX.nil ?_; cbv) | (refine LookX.auto hκ ?_; cbv) | (refine LookN.mk' (x := κ _ (encS s)) (by subst hκ; delta kid at *; exact whole_take ns) ?_; cbv))
  all_goals (try (show _ = true; subst hκ; delta kid; (have ho := encS_ok (s); generalize encS (s) = xs at ho ⊢; cases xs <;> exact ho)))
  all_goals (try (show Side _; refine ⟨?_⟩; subst hκ; delta kid at *; first | exact rfl | exact trivial | exact ⟨rfl, rfl, .inl rfl⟩ | exact ns | ((try dsimp only at *); (try simp only [setTo_len, noS_len, List.length_append, List.length_cons, List.length_nil, List.length_map, and_self, true_or, or_true, eq_self, true_and, and_true, Nat.zero_add, Nat.add_zero]); (first | done | omega); done)))
  all_goals (try (exact ⟨by subst hκ; exact ns⟩))
  all_goals (clear hH; subst hκ; delta kid at *; (try dsimp only at *))
  all_goals (show IsX _ _ _; first | exact IsX.sameM rfl (fun x => rfl) (by with_reducible assumption) | exact IsX.newM rfl rfl (fun x => rfl) (by with_reducible assumption) rfl)
def e_rkept {κ : Kp} (hκ : κ = kid) : ESpec Try.prog := fnES [.list, .space, .flat] b_rkept F_rkept hκ fun avs p r hF hp => by
  unfold F_rkept at hF
  split at hF
  case h_2 => cases hF
  rename_i was xwas s va
  simp only [kid, Option.some.injEq, Prod.mk.injEq] at hF
  obtain ⟨rfl, rfl⟩ := hF
  refine ⟨fun x y h => by simp [SV.den, SV.den0, h], fun vs w hR => ?_⟩
  obtain ⟨iwas, Awas, cwas, vs0, rfl, rfl, hwas, hR⟩ := hR
  obtain ⟨vs1, rfl, ns, hR⟩ := hR
  obtain ⟨vs2, rfl, hR⟩ := hR
  have hR' : vs2 = [] := hR
  subst hR'
  exact (k_rkept was s va Awas cwas hp ns w hwas).mono fun e w' ⟨v, H', h1, h2, h3⟩ => ⟨v, H', h1, h2.swap rfl, h3⟩
end Go.Proofs.Ytbcicjmepojlnaa.Eng
/- What the laws of layer 11 come to, in plain words; no condition but those typed. -/
namespace Go.Proofs.Ytbcicjmepojlnaa.Eng
open Go Go.RowKit
set_option autoImplicit false
set_option linter.unusedSimpArgs false
set_option linter.unusedVariables false
theorem rt_take {l : List Ar} (h : Rt l) (n : Nat) : Rt (l.take n) := ⟨fun a ha => h.1 a (List.mem_of_mem_take ha), h.2.sublist (List.take_sublist n l)⟩
theorem some_rt (l : List Ar) : Rt (someL l) := rt_take (made_rt l) 24
theorem some_may (l : List Ar) : mayS (someL l) = true := rt_mayS (some_rt l) (someL_le l)
theorem eqN_cells (x : An) : (x.er == x.er && (x.v == x.v && (x.t.p == x.t.p && (x.t.sh == x.t.sh && (x.t.b == x.t.b && (x.t.o == x.t.o && true)))))) = true := eqN_self x
/-! ### A protected list -/
/-! ### A fault at a page that is there -/
/-! ### ProtectAllows -/
/-! ### ProtectHalves -/
/-! ### ProtectBack -/
theorem join_len : ∀ (l out : List Ar), (l.foldl stepJ out).length ≤ out.length + l.length
  | [], out => by simp
  | a :: r, out => by
    rw [List.foldl_cons]
    have ih := join_len r (stepJ out a)
    have h1 : (stepJ out a).length ≤ out.length + 1 := by
      unfold stepJ
      split
      · simp
      · split
        · rw [List.length_append, List.length_dropLast, List.length_singleton]; omega
        · rw [List.length_append, List.length_singleton]; exact Nat.le_refl _
    rw [List.length_cons]
    omega
theorem rt_short {l m : List Ar} (hl : Rt l) (hm : Ok m) (h : ∀ x t, x % 4096 = 0 → (Has l x t ↔ Has m x t)) : l.length ≤ m.length := by
  obtain ⟨j1, j2⟩ := joined_rt hm
  have e : l = joinedL m := rt_ext hl j1 fun x t hx => (h x t hx).trans (j2 x t).symm
  rw [e]
  have := join_len m []
  show (m.foldl stepJ []).length ≤ _
  simpa using this
theorem rt_disj {l : List Ar} (h : Ok l) {a b : Ar} (ha : a ∈ l) (hb : b ∈ l) {x : Int} (h1 : inA a x) (h2 : inA b x) : a = b := by
  have key : ∀ l : List Ar, (l.Pairwise fun a b => a.e ≤ b.s) → ∀ a ∈ l, ∀ b ∈ l, inA a x → inA b x → a = b := by
    intro l
    induction l with
    | nil => intro _ a ha; cases ha
    | cons y r ih =>
      intro hp a ha b hb i1 i2
      obtain ⟨p1, p2⟩ := List.pairwise_cons.1 hp
      rcases List.mem_cons.1 ha with ea | ha
      · rcases List.mem_cons.1 hb with eb | hb
        · rw [ea, eb]
        · have := p1 b hb
          rw [ea] at i1
          have := i1.2
          have := i2.1
          omega
      · rcases List.mem_cons.1 hb with eb | hb
        · have := p1 a ha
          rw [eb] at i2
          have := i2.2
          have := i1.1
          omega
        · exact ih p2 a ha b hb i1 i2
  exact key l h.2 a ha b hb h1 h2
/-! ### Numbers that the laws reckon -/
def U8 (n : Int) : Prop := 0 ≤ n ∧ n ≤ 255
theorem pick_ix {l : List Ar} {k : Int} (hk : U8 k) (h : ((l.length : Int) == 0) = false) : Int.tmod (IntKind.i64.wrap k) (l.length : Int) = ((k.toNat % l.length : Nat) : Int) ∧ k.toNat % l.length < l.length := by
  have hk1 := hk.1
  have hk2 := hk.2
  have h1 := beq_no h
  have e : w64 k = k := w64_id (by unfold In64; omega)
  have hlt : k.toNat % l.length < l.length := Nat.mod_lt _ (by omega)
  refine ⟨?_, hlt⟩
  show Int.tmod (w64 k) _ = _
  rw [e, Int.tmod_eq_emod_of_nonneg hk1, Int.natCast_emod, Int.toNat_of_nonneg hk1]
theorem pick_in {l : List Ar} {k : Int} (hk : U8 k) (h : ((l.length : Int) == 0) = false) : 0 < 6 ∧ 0 ≤ Int.tmod (IntKind.i64.wrap k) (l.length : Int) ∧ Int.tmod (IntKind.i64.wrap k) (l.length : Int) < (l.length : Int) := by
  obtain ⟨e, h1⟩ := pick_ix hk h
  rw [e]
  omega
theorem pick_take {l : List Ar} {k : Int} (hk : U8 k) (h : ((l.length : Int) == 0) = false) : takeN (encL l) ((Int.tmod (IntKind.i64.wrap k) (l.length : Int)).toNat * 6) 6 = some [.v (.int .i64 (nthA l (k.toNat % l.length)).s), .v (.int .i64 (nthA l (k.toNat % l.length)).e), .v (.int .i64 (nthA l (k.toNat % l.length)).p), .v (.bool (nthA l (k.toNat % l.length)).sh), .v (.int .i64 (nthA l (k.toNat % l.length)).b), .v (.int .i64 (nthA l (k.toNat % l.length)).o)] := by
  obtain ⟨e, h1⟩ := pick_ix hk h
  rw [e]
  exact la_take h1
theorem pick_mem {l : List Ar} {k : Int} (hk : U8 k) (h : ((l.length : Int) == 0) = false) : nthA l (k.toNat % l.length) ∈ l := nthA_mem (pick_ix hk h).2
theorem len_w {a : Ar} (h : Fo a) : IntKind.i64.wrap (a.e - a.s) = a.e - a.s := by
  have := h.lo
  have := h.hi
  have := h.lt
  exact w64_id (by unfold In64; omega)
abbrev hvN (q : Int) : Int := IntKind.i64.wrap (2 + IntKind.i64.wrap (Int.tmod q 40))
abbrev hvK (q r : Int) : Int := IntKind.i64.wrap (1 + Int.tmod (IntKind.i64.wrap r) (IntKind.i64.wrap (hvN q - 1)))
abbrev hvA (q : Int) : Int := IntKind.i64.wrap (4096 * IntKind.i64.wrap (16 + IntKind.i64.wrap (Int.tmod q 60)))
abbrev hvP (q : Int) : Int := IntKind.i64.wrap (Int.tmod q 8)
abbrev hv1 (q1 q2 q3 q4 : Int) : Cl := ⟨0, hvA q1, IntKind.i64.wrap (4096 * hvN q2), 0, 0, hvP q4, 0, 0, 0⟩
abbrev hv3 (q1 q2 q3 q4 : Int) : Cl := ⟨0, IntKind.i64.wrap (hvA q1 + IntKind.i64.wrap (4096 * hvK q2 q3)), IntKind.i64.wrap (4096 * IntKind.i64.wrap (hvN q2 - hvK q2 q3)), 0, 0, hvP q4, 0, 0, 0⟩
end Go.Proofs.Ytbcicjmepojlnaa.Eng
/- Contracts of functions (printed by genx.py of this work): what each hands back; condition: as its 'hside' says. -/
namespace Go.Proofs.Ytbcicjmepojlnaa.Eng
open Go Go.RowKit
set_option linter.unusedVariables false
set_option linter.unusedSimpArgs false
theorem b_failed : Bodied Try.prog 127 := bodied Try.func127 rfl (by decide)
def F_failed : FunX := fun κ avs => match avs with
  | [.lst l xl, .val (.c (.v (.int .i64 er)))] => some (κ _ (l.length ≤ 300000), (.row 53 6 ((κ _ ((l).length))) ((κ _ (encL (l)))) (fun x => .tup [.c x, .agg [.v (.int .i64 (κ _ (er))), .v (.int .i64 0), .v (.int .i64 0), .v (.bool false), .v (.int .i64 0), .v (.int .i64 0)]])))
  | _ => none
set_option maxRecDepth 100000 in
set_option maxHeartbeats 4000000 in
theorem k_failed (l : List Ar) (er : Int) (Al : Option Addr) (cl : Nat) (hside : l.length ≤ 300000) (w : World) (hl : (Ent.rd Al 6 l.length (encL l)).holds w) :
    Calls Try.prog 127 #[.slice Al l.length cl, (SV.c (.v (.int .i64 er))).den] w fun e w' => ∃ v H', e = .returned v.den ∧ IsX (.row 53 6 (((l).length)) ((encL (l))) (fun x => .tup [.c x, .agg [.v (.int .i64 (er)), .v (.int .i64 0), .v (.int .i64 0), .v (.bool false), .v (.int .i64 0), .v (.int .i64 0)]])) v H' ∧ HSat w (fun _ => False) H' w' := by
  obtain ⟨κ, hκ⟩ : ∃ κ : Kp, κ = kid := ⟨_, rfl⟩
  have hH : HSat w (fun _ => False) (heapOf [(nilId, .rd none 1 0 []), (200000, .rd Al 6 (κ _ l.length) (κ _ (encL l)))]) w := by
    subst hκ
    refine HSat.reads fun p hp => ?_
    simp only [List.mem_cons, List.not_mem_nil, or_false] at hp
    rcases hp with rfl | rfl
    · exact ⟨_, _, _, _, rfl, nil_holds w⟩
    · exact ⟨_, _, _, _, rfl, hl⟩
  refine (callsP (n := 10) FTok [e_clone hκ] mixed [] Try.func127 rfl (by kernel_rfl) #[.slice Al l.length cl, (SV.c (.v (.int .i64 er))).den] [(0, .c (.sl 200000 Al (κ _ l.length) cl)), (1, .c (.v (.int .i64 er)))] _ w rfl [.tmp 4, .cell 5 31] rfl (by simp) (by subst hκ; simp [SV.den, C.den, kid]) hH (fun v H' => IsX (.row 53 6 ((κ _ ((l).length))) ((κ _ (encL (l)))) (fun x => .tup [.c x, .agg [.v (.int .i64 (κ _ (er))), .v (.int .i64 0), .v (.int .i64 0), .v (.bool false), .v (.int .i64 0), .v (.int .i64 0)]])) v H') hκ ?_).mono ?_
  rotate_left
  · subst hκ; intro e w' h; exact h
  intro P' hP'
  cbv
  repeat' (first | refine And.intro ?_ ?_ | (intro _; cbv) | (refine tst_mk (fun h => ?_) (fun h => ?_) <;> cbv) | (refine LookX.nil ?_; cbv) | (refine LookX.auto hκ ?_; cbv))
  all_goals (try (show Side _; refine ⟨?_⟩; subst hκ; delta kid at *; first | exact rfl | exact trivial | exact ⟨rfl, rfl, .inl rfl⟩ | ((try dsimp only at *); (try simp only [setTo_len, noS_len, List.length_append, List.length_cons, List.length_nil, List.length_map, and_self, true_or, or_true, eq_self, true_and, and_true, Nat.zero_add, Nat.add_zero]); (first | done | omega); done)))
  all_goals (clear hH; subst hκ; delta kid at *; (try dsimp only at *))
  exact IsX.rowM rfl rfl (fun x => rfl) rfl
def e_failed {κ : Kp} (hκ : κ = kid) : ESpec Try.prog := fnES [.list, .flat] b_failed F_failed hκ fun avs p r hF hp => by
  unfold F_failed at hF
  split at hF
  case h_2 => cases hF
  rename_i l xl er
  simp only [kid, Option.some.injEq, Prod.mk.injEq] at hF
  obtain ⟨rfl, rfl⟩ := hF
  refine ⟨fun x y h => by simp [SV.den, SV.den0, h], fun vs w hR => ?_⟩
  obtain ⟨il, Al, cl, vs0, rfl, rfl, hl, hR⟩ := hR
  obtain ⟨vs1, rfl, hR⟩ := hR
  have hR' : vs1 = [] := hR
  subst hR'
  exact k_failed l er Al cl hp w hl
theorem b_kept : Bodied Try.prog 117 := bodied Try.func117 rfl (by decide)
def F_kept : FunX := fun κ avs => match avs with
  | [.lst was xwas, .lst now xnow, .val (.c (.v (.int .i64 va)))] => some (κ _ (was.length ≤ 300000 ∧ now.length ≤ 300000), (.row 53 6 ((κ _ ((keptL was now).length))) ((κ _ (encL (keptL was now)))) (fun x => .tup [.c x, .agg [.v (.int .i64 (κ _ ((keptN now va).er))), .v (.int .i64 (κ _ ((keptN now va).v))), .v (.int .i64 (κ _ ((keptN now va).t.p))), .v (.bool (κ _ ((keptN now va).t.sh))), .v (.int .i64 (κ _ ((keptN now va).t.b))), .v (.int .i64 (κ _ ((keptN now va).t.o)))]])))
  | _ => none
set_option maxRecDepth 100000 in
set_option maxHeartbeats 4000000 in
theorem k_kept (was : List Ar) (now : List Ar) (va : Int) (Awas : Option Addr) (cwas : Nat) (Anow : Option Addr) (cnow : Nat) (hside : was.length ≤ 300000 ∧ now.length ≤ 300000) (w : World) (hwas : (Ent.rd Awas 6 was.length (encL was)).holds w) (hnow : (Ent.rd Anow 6 now.length (encL now)).holds w) :
    Calls Try.prog 117 #[.slice Awas was.length cwas, .slice Anow now.length cnow, (SV.c (.v (.int .i64 va))).den] w fun e w' => ∃ v H', e = .returned v.den ∧ IsX (.row 53 6 (((keptL was now).length)) ((encL (keptL was now))) (fun x => .tup [.c x, .agg [.v (.int .i64 ((keptN now va).er)), .v (.int .i64 ((keptN now va).v)), .v (.int .i64 ((keptN now va).t.p)), .v (.bool ((keptN now va).t.sh)), .v (.int .i64 ((keptN now va).t.b)), .v (.int .i64 ((keptN now va).t.o))]])) v H' ∧ HSat w (fun _ => False) H' w' := by
  obtain ⟨κ, hκ⟩ : ∃ κ : Kp, κ = kid := ⟨_, rfl⟩
  have hH : HSat w (fun _ => False) (heapOf [(nilId, .rd none 1 0 []), (200000, .rd Awas 6 (κ _ was.length) (κ _ (encL was))), (200010, .rd Anow 6 (κ _ now.length) (κ _ (encL now)))]) w := by
    subst hκ
    refine HSat.reads fun p hp => ?_
    simp only [List.mem_cons, List.not_mem_nil, or_false] at hp
    rcases hp with rfl | rfl | rfl
    · exact ⟨_, _, _, _, rfl, nil_holds w⟩
    · exact ⟨_, _, _, _, rfl, hwas⟩
    · exact ⟨_, _, _, _, rfl, hnow⟩
  refine (callsP (n := 19) FTok [e_clone hκ, e_failed hκ] mixed [] Try.func117 rfl (by kernel_rfl) #[.slice Awas was.length cwas, .slice Anow now.length cnow, (SV.c (.v (.int .i64 va))).den] [(0, .c (.sl 200000 Awas (κ _ was.length) cwas)), (1, .c (.sl 200010 Anow (κ _ now.length) cnow)), (2, .c (.v (.int .i64 va)))] _ w rfl [.tmp 6, .cell 7 31] rfl (by simp) (by subst hκ; simp [SV.den, C.den, kid]) hH (fun v H' => IsX (.row 53 6 ((κ _ ((keptL was now).length))) ((κ _ (encL (keptL was now)))) (fun x => .tup [.c x, .agg [.v (.int .i64 (κ _ ((keptN now va).er))), .v (.int .i64 (κ _ ((keptN now va).v))), .v (.int .i64 (κ _ ((keptN now va).t.p))), .v (.bool (κ _ ((keptN now va).t.sh))), .v (.int .i64 (κ _ ((keptN now va).t.b))), .v (.int .i64 (κ _ ((keptN now va).t.o)))]])) v H') hκ ?_).mono ?_
  rotate_left
  · subst hκ; intro e w' h; exact h
  intro P' hP'
  cbv
  repeat' (first | refine And.intro ?_ ?_ | (intro _; cbv) | (refine tst_mk (fun h => ?_) (fun h => ?_) <;> cbv) | (refine LookX.nil ?_; cbv) | (refine LookX.auto hκ ?_; cbv))
  all_goals (try (show Side _; refine ⟨?_⟩; subst hκ; delta kid at *; first | exact rfl | exact trivial | exact ⟨rfl, rfl, .inl rfl⟩ | ((try dsimp only at *); (try simp only [setTo_len, noS_len, List.length_append, List.length_cons, List.length_nil, List.length_map, and_self, true_or, or_true, eq_self, true_and, and_true, Nat.zero_add, Nat.add_zero]); (first | done | omega); done)))
  all_goals (clear hH; subst hκ; delta kid at *; (try dsimp only at *))
  all_goals (show IsX _ _ _; refine IsX.rowM rfl rfl (fun x => ?_) ?_ <;> (try simp only [keptL, keptN, errA, okA, noAt, *, Bool.or_true, Bool.true_or, Bool.or_false, Bool.false_or, Bool.and_true, Bool.true_and, Bool.and_false, Bool.false_and, Bool.not_true, Bool.not_false, if_true, if_false, Bool.false_eq_true]) <;> (try rfl))
def e_kept {κ : Kp} (hκ : κ = kid) : ESpec Try.prog := fnES [.list, .list, .flat] b_kept F_kept hκ fun avs p r hF hp => by
  unfold F_kept at hF
  split at hF
  case h_2 => cases hF
  rename_i was xwas now xnow va
  simp only [kid, Option.some.injEq, Prod.mk.injEq] at hF
  obtain ⟨rfl, rfl⟩ := hF
  refine ⟨fun x y h => by simp [SV.den, SV.den0, h], fun vs w hR => ?_⟩
  obtain ⟨iwas, Awas, cwas, vs0, rfl, rfl, hwas, hR⟩ := hR
  obtain ⟨inow, Anow, cnow, vs1, rfl, rfl, hnow, hR⟩ := hR
  obtain ⟨vs2, rfl, hR⟩ := hR
  have hR' : vs2 = [] := hR
  subst hR'
  exact k_kept was now va Awas cwas Anow cnow hp w hwas hnow
theorem b_maym : Bodied Try.prog 126 := bodied Try.func126 rfl (by decide)
def F_maym : FunX := fun κ avs => match avs with
  | [.lst l xl] => some (κ _ (l.length ≤ 300000), (.val (.c (.v (.bool (κ _ (mayS l)))))))
  | _ => none
set_option maxRecDepth 100000 in
set_option maxHeartbeats 4000000 in
theorem k_maym (l : List Ar) (Al : Option Addr) (cl : Nat) (hside : l.length ≤ 300000) (w : World) (hl : (Ent.rd Al 6 l.length (encL l)).holds w) :
    Calls Try.prog 126 #[.slice Al l.length cl] w fun e w' => ∃ v H', e = .returned v.den ∧ IsX (.val (.c (.v (.bool (mayS l))))) v H' ∧ HSat w (fun _ => False) H' w' := by
  obtain ⟨κ, hκ⟩ : ∃ κ : Kp, κ = kid := ⟨_, rfl⟩
  have hH : HSat w (fun _ => False) (heapOf [(nilId, .rd none 1 0 []), (200000, .rd Al 6 (κ _ l.length) (κ _ (encL l)))]) w := by
    subst hκ
    refine HSat.reads fun p hp => ?_
    simp only [List.mem_cons, List.not_mem_nil, or_false] at hp
    rcases hp with rfl | rfl
    · exact ⟨_, _, _, _, rfl, nil_holds w⟩
    · exact ⟨_, _, _, _, rfl, hl⟩
  refine (callsP (n := 10) FTok [e_right hκ] mixed [] Try.func126 rfl (by kernel_rfl) #[.slice Al l.length cl] [(0, .c (.sl 200000 Al (κ _ l.length) cl))] _ w rfl [.tmp 2] rfl (by simp) (by subst hκ; simp [SV.den, C.den, kid]) hH (fun v H' => IsX (.val (.c (.v (.bool (κ _ (mayS l)))))) v H') hκ ?_).mono ?_
  rotate_left
  · subst hκ; intro e w' h; exact h
  intro P' hP'
  cbv
  repeat' (first | refine And.intro ?_ ?_ | (intro _; cbv) | (refine tst_mk (fun h => ?_) (fun h => ?_) <;> cbv) | (refine LookX.nil ?_; cbv) | (refine LookX.auto hκ ?_; cbv))
  all_goals (try (show Side _; refine ⟨?_⟩; subst hκ; delta kid at *; first | exact rfl | exact trivial | exact ⟨rfl, rfl, .inl rfl⟩ | ((try dsimp only at *); (try simp only [setTo_len, noS_len, List.length_append, List.length_cons, List.length_nil, List.length_map, and_self, true_or, or_true, eq_self, true_and, and_true, Nat.zero_add, Nat.add_zero]); (first | done | omega); done)))
  all_goals (clear hH; subst hκ; delta kid at *; (try dsimp only at *))
  all_goals (try (exact ⟨trivial⟩))
  all_goals (try (exact ⟨by decide⟩))
  all_goals (show IsX _ _ _; refine IsX.val_ ?_; simp only [SV.den, SV.den0, C.den, List.map_cons, List.map_nil, mayS, GT.gt, GE.ge]; (try simp only [*, Bool.or_true, Bool.true_or, Bool.or_false, Bool.false_or, Bool.and_true, Bool.true_and, Bool.and_false, Bool.false_and, Bool.not_true, Bool.not_false, if_true, if_false, Bool.false_eq_true]); (first | done | rfl | (exfalso; simp_all; done) | skip))
def e_maym {κ : Kp} (hκ : κ = kid) : ESpec Try.prog := fnES [.list] b_maym F_maym hκ fun avs p r hF hp => by
  unfold F_maym at hF
  split at hF
  case h_2 => cases hF
  rename_i l xl
  simp only [kid, Option.some.injEq, Prod.mk.injEq] at hF
  obtain ⟨rfl, rfl⟩ := hF
  refine ⟨trivial, fun vs w hR => ?_⟩
  obtain ⟨il, Al, cl, vs0, rfl, rfl, hl, hR⟩ := hR
  have hR' : vs0 = [] := hR
  subst hR'
  exact k_maym l Al cl hp w hl
theorem b_rmay : Bodied Try.prog 74 := bodied Try.func74 rfl (by decide)
def F_rmay : FunX := fun κ avs => match avs with
  | [.lst l xl] => some (κ _ (l.length ≤ 300000), (.val (.c (.v (.bool (κ _ (mayS l)))))))
  | _ => none
set_option maxRecDepth 100000 in
set_option maxHeartbeats 4000000 in
theorem k_rmay (l : List Ar) (Al : Option Addr) (cl : Nat) (hside : l.length ≤ 300000) (w : World) (hl : (Ent.rd Al 6 l.length (encL l)).holds w) :
    Calls Try.prog 74 #[.slice Al l.length cl] w fun e w' => ∃ v H', e = .returned v.den ∧ IsX (.val (.c (.v (.bool (mayS l))))) v H' ∧ HSat w (fun _ => False) H' w' := by
  obtain ⟨κ, hκ⟩ : ∃ κ : Kp, κ = kid := ⟨_, rfl⟩
  have hH : HSat w (fun _ => False) (heapOf [(nilId, .rd none 1 0 []), (200000, .rd Al 6 (κ _ l.length) (κ _ (encL l)))]) w := by
    subst hκ
    refine HSat.reads fun p hp => ?_
    simp only [List.mem_cons, List.not_mem_nil, or_false] at hp
    rcases hp with rfl | rfl
    · exact ⟨_, _, _, _, rfl, nil_holds w⟩
    · exact ⟨_, _, _, _, rfl, hl⟩
  refine (callsP (n := 10) FTok [e_rright hκ] mixed [] Try.func74 rfl (by kernel_rfl) #[.slice Al l.length cl] [(0, .c (.sl 200000 Al (κ _ l.length) cl))] _ w rfl [.tmp 2] rfl (by simp) (by subst hκ; simp [SV.den, C.den, kid]) hH (fun v H' => IsX (.val (.c (.v (.bool (κ _ (mayS l)))))) v H') hκ ?_).mono ?_
  rotate_left
  · subst hκ; intro e w' h; exact h
  intro P' hP'
  cbv
  repeat' (first | refine And.intro ?_ ?_ | (intro _; cbv) | (refine tst_mk (fun h => ?_) (fun h => ?_) <;> cbv) | (refine LookX.nil ?_; cbv) | (refine LookX.auto hκ ?_; cbv))
  all_goals (try (show Side _; refine ⟨?_⟩; subst hκ; delta kid at *; first | exact rfl | exact trivial | exact ⟨rfl, rfl, .inl rfl⟩ | ((try dsimp only at *); (try simp only [setTo_len, noS_len, List.length_append, List.length_cons, List.length_nil, List.length_map, and_self, true_or, or_true, eq_self, true_and, and_true, Nat.zero_add, Nat.add_zero]); (first | done | omega); done)))
  all_goals (clear hH; subst hκ; delta kid at *; (try dsimp only at *))
  all_goals (try (exact ⟨trivial⟩))
  all_goals (try (exact ⟨by decide⟩))
  all_goals (show IsX _ _ _; refine IsX.val_ ?_; simp only [SV.den, SV.den0, C.den, List.map_cons, List.map_nil, mayS, GT.gt, GE.ge]; (try simp only [*, Bool.or_true, Bool.true_or, Bool.or_false, Bool.false_or, Bool.and_true, Bool.true_and, Bool.and_false, Bool.false_and, Bool.not_true, Bool.not_false, if_true, if_false, Bool.false_eq_true]); (first | done | rfl | (exfalso; simp_all; done) | skip))
def e_rmay {κ : Kp} (hκ : κ = kid) : ESpec Try.prog := fnES [.list] b_rmay F_rmay hκ fun avs p r hF hp => by
  unfold F_rmay at hF
  split at hF
  case h_2 => cases hF
  rename_i l xl
  simp only [kid, Option.some.injEq, Prod.mk.injEq] at hF
  obtain ⟨rfl, rfl⟩ := hF
  refine ⟨trivial, fun vs w hR => ?_⟩
  obtain ⟨il, Al, cl, vs0, rfl, rfl, hl, hR⟩ := hR
  have hR' : vs0 = [] := hR
  subst hR'
  exact k_rmay l Al cl hp w hl
end Go.Proofs.Ytbcicjmepojlnaa.Eng
/- Contracts of methods over a pointer to a struct whose first field is a list of areas; no condition. -/
namespace Go.Proofs.Ytbcicjmepojlnaa.Eng
open Go Go.RowKit
set_option autoImplicit false
set_option linter.unusedSimpArgs false
set_option linter.unusedVariables false
def EK (κ : Kp) (b t : Nat) (cs : List C) (l : List Ar) (A : Option Addr) (c : Nat) : List (Nat × Ent) :=
  [(nilId, .rd none 1 0 []), (200000, .blk b t (.sl 200010 A (κ _ l.length) c :: cs)), (200010, .rd A 6 (κ _ l.length) (κ _ (encL l)))]
structure InK (b t : Nat) (cs : List C) (l : List Ar) (A : Option Addr) (c : Nat) (w : World) : Prop where
  h : HSat w (fun g => g = b) (heapOf (EK kid b t cs l A c)) w
abbrev FunK := Kp → List Ar → List C → List SV → Option (Prop × Rs × Option (List C))
def recT (t : Nat) (F : FunK) (κ : Kp) : TSpec := fun args H d K => match args with
  | .c (.loc id b 0) :: rest => match H id with
    | some (.blk b' t' (.sl j A n c :: cs)) => match rowOf (H j) with
      | some (A', z, n', xs) => (t' = t ∧ id ≠ j) ∧ Side (κ _ (b = b' ∧ A = A' ∧ n = n' ∧ (z = 6 ∨ n = 0))) ∧ LookX encL xs fun l => Side (κ _ (l.length = n)) ∧ match F κ l cs rest with
        | some (p, r, none) => Side p ∧ resK κ r d K
        | some (p, .val v, some cs') => Side p ∧ K v [(id, some (.blk b t (.sl j A n c :: cs')))]
        | _ => False
      | none => False
    | _ => False
  | _ => False
structure IsP (r : Rs) (e : Ent) (v : SV) (H' : Heap) : Prop where
  r : IsX r v H'
  e : ∃ (b t : Nat) (cs cs' : List C), e = .blk b t cs ∧ H' 200000 = some (.blk b t cs') ∧ cs'.map C.den = cs.map C.den
theorem IsP.mk' {r : Rs} {b t : Nat} {cs cs' : List C} {v : SV} {H' : Heap} (h : IsX r v H') (he : H' 200000 = some (.blk b t cs')) (hc : cs' = cs) : IsP r (.blk b t cs) v H' :=
  ⟨h, b, t, cs, cs', rfl, he, by rw [hc]⟩
section
variable {P : Program} {f : FuncId}
theorem recT_conj (t : Nat) (F : FunK) (wr : Bool) (hro : wr = false → ∀ l cs rest p r o, F kid l cs rest = some (p, r, o) → o = none) (args : List SV) (H : Heap) (d : Nat) : ConjP (recT t F kid args H d) (okKey wr H d) := by
  unfold recT
  split
  · rename_i id b rest
    split
    · rename_i b' t' j A n c cs hid
      split
      · rename_i A' z n' xs hj
        refine .and_ fun _ => .side fun _ => .look encL_inj fun l _ => .side fun _ => ?_
        split
        · rename_i p r hF
          refine .side fun _ => ?_
          obtain ⟨s, R, h0, h1, h2⟩ := resK_conj H r d
          exact ⟨s, R, h0, fun hs v u hR q hq => by
            rcases h1 hs v u hR q hq with h | h | h | h
            · exact .inl h
            · exact .inr (.inl h)
            · exact .inr (.inr (.inl h))
            · exact absurd h.1 (by simp), h2⟩
        · rename_i p v cs' hF
          refine .side fun _ => .one _ _ ?_
          have hw : wr = true := by
            cases wr with
            | true => rfl
            | false => have := hro rfl _ _ _ _ _ _ hF; cases this
          intro q hq
          rw [List.mem_singleton.1 hq]
          exact .inr (.inr (.inr ⟨hw, by rw [hid]; rfl⟩))
        · exact .false_
      · exact .false_
    · exact .false_
  · exact .false_
theorem gives_list {H : Heap} {j : Nat} {A : Option Addr} {z n : Nat} {xs : List C} (h : rowOf (H j) = some (A, z, n, xs)) (hz : z = 6 ∨ n = 0) : ∃ e, H j = some e ∧ e.gives (.rd A 6 n xs) := by
  have zero : ∀ e : Ent, e.gives (.rd A z n xs) → e.gives (.rd A 6 n xs) := fun e he => by
    rcases hz with rfl | rfl
    · exact he
    · refine ⟨fun w hw => ?_, fun w hw g hg => ?_, fun hm => by cases hm⟩
      · have h1 := he.holds w hw
        exact ⟨by have := h1.1; simp at this; simp [this], h1.2⟩
      · exact he.block w hw g hg
  cases hj : H j with
  | none => rw [hj] at h; cases h
  | some e =>
    rw [hj] at h
    cases e with
    | blk _ _ _ => cases h
    | row A' c t z' n' xs' =>
      simp only [rowOf, Option.some.injEq, Prod.mk.injEq] at h
      obtain ⟨rfl, rfl, rfl, rfl⟩ := h
      exact ⟨_, rfl, zero _ gives_row_rd⟩
    | rd A' z' n' xs' =>
      simp only [rowOf, Option.some.injEq, Prod.mk.injEq] at h
      obtain ⟨rfl, rfl, rfl, rfl⟩ := h
      exact ⟨_, rfl, zero _ (gives_refl _)⟩
def EK2 (b t : Nat) (cs : List C) (l : List Ar) (A : Option Addr) (c : Nat) : List (Nat × Ent) := [(200000, .blk b t (.sl 200010 A l.length c :: cs)), (200010, .rd A 6 l.length (encL l))]
theorem mutE_EK2 (b t : Nat) (cs : List C) (l : List Ar) (A : Option Addr) (c : Nat) : mutE (EK2 b t cs l A c) = fun g => g = b := by
  funext g
  apply propext
  unfold mutE EK2
  constructor
  · rintro ⟨k, i, e, hk, hm, hg⟩
    match k, hk with
    | 0, hk =>
      simp at hk
      obtain ⟨_, rfl⟩ := hk
      simp only [Ent.block, Option.some.injEq] at hg
      exact hg.symm
    | 1, hk =>
      simp at hk
      obtain ⟨_, rfl⟩ := hk
      cases hm
    | k + 2, hk => simp at hk
  · rintro rfl
    exact ⟨0, _, _, rfl, rfl, rfl⟩
theorem EK_EK2 (b t : Nat) (cs : List C) (l : List Ar) (A : Option Addr) (c : Nat) : heapOf (EK kid b t cs l A c) = upds (heapOf (EK2 b t cs l A c)) [(nilId, some (.rd none 1 0 []))] := by
  funext i
  simp only [EK, EK2, heapOf, upds, upd_apply, kid]
theorem HSat.shut {w w' : World} {b t : Nat} {cs cs' : List C} {Hc : Heap} (hb : w.heap[b]? = some (.cells (cs.map C.den).toArray t (0, 0))) (h : HSat w (fun g => g = b) Hc w') (hc : Hc 200000 = some (.blk b t cs')) (he : cs'.map C.den = cs.map C.den) :
    HSat w (fun _ => False) (upd Hc 200000 none) w' := by
  have hs : ∀ i e, (upd Hc 200000 none) i = some e → Hc i = some e ∧ i ≠ 200000 := fun i e hi => by
    rw [upd_apply] at hi
    split at hi
    · cases hi
    · rename_i hne
      exact ⟨hi, hne⟩
  refine ⟨⟨h.fr.os, h.fr.tape, h.fr.output, h.fr.size, fun k hk _ => ?_⟩, fun i e hi => h.holds i e (hs i e hi).1, fun i e hi => h.lt i e (hs i e hi).1, fun i e hi hm g hg => ?_, fun i j ei ej hij hi hj => h.sep i j ei ej hij (hs i ei hi).1 (hs j ej hj).1⟩
  · by_cases hkb : k = b
    · subst hkb
      have h1 : w'.heap[k]? = some (.cells (cs'.map C.den).toArray t (0, 0)) := h.holds _ _ hc
      rw [h1, hb, he]
    · exact h.fr.block k hk hkb
  · obtain ⟨h1, h2⟩ := hs i e hi
    rcases h.own i e h1 hm g hg with h3 | h3
    · exact .inl h3
    · subst h3
      exact absurd hg (h.sep 200000 i _ e (fun e => h2 e.symm) hc h1 rfl g rfl)
theorem IsX.shut {r : Rs} {v : SV} {Hc : Heap} {b t : Nat} {cs : List C} (h : IsX r v Hc) (hc : Hc 200000 = some (.blk b t cs)) : IsX r v (upd Hc 200000 none) := by
  have key : ∀ i A2 c2 t z n xs, Hc i = some (.row A2 c2 t z n xs) → upd Hc 200000 none i = some (.row A2 c2 t z n xs) := fun i A2 c2 t z n xs hi => by
    rw [upd_apply, if_neg]
    · exact hi
    · rintro rfl
      rw [hc] at hi
      cases hi
  obtain ⟨h⟩ := h
  cases r with
  | val v0 => exact ⟨h⟩
  | row t z n xs mk =>
    obtain ⟨i, A2, c2, h1, h2⟩ := h
    exact ⟨⟨i, A2, c2, h1, h2.imp (key _ _ _ _ _ _ _) id⟩⟩
  | alt bb x mk1 r mk2 =>
    refine ⟨⟨h.1, fun hb => ?_⟩⟩
    obtain ⟨i, A2, c2, h1, h2⟩ := h.2 hb
    exact ⟨i, A2, c2, h1, h2.imp (key _ _ _ _ _ _ _) id⟩
def recES (t : Nat) (hB : Bodied P f) (F : FunK) (wr : Bool) (hro : wr = false → ∀ l cs rest p r o, F kid l cs rest = some (p, r, o) → o = none) {κ : Kp} (hκ : κ = kid)
    (hk : ∀ l cs rest p r o, F kid l cs rest = some (p, r, o) → p → mkOk r ∧ ∀ (b : Nat) (A : Option Addr) (c : Nat) (w : World), InK b t cs l A c w →
      Calls P f (Value.pointer (some ⟨b, 0, none⟩) :: rest.map SV.den).toArray w fun e w' => ∃ v H', e = .returned v.den ∧ IsP r (.blk b t (.sl 200010 A l.length c :: o.getD cs)) v H' ∧ HSat w (fun g => g = b) H' w') : ESpec P :=
  ES hB wr (recT t F) hκ (recT_conj t F wr hro) fun args H0 H d w0 M w hs hsub hH => by
    have hs' := hs
    unfold recT at hs'
    split at hs'
    case h_2 => exact hs'.elim
    rename_i id b rest
    split at hs'
    case h_2 => exact hs'.elim
    rename_i b' t' j A n c cs hid
    split at hs'
    case h_2 => exact hs'.elim
    rename_i A' z n' xs hj
    obtain ⟨⟨rfl, hne⟩, ⟨h1⟩, ⟨l, rfl, ⟨h2⟩, h3⟩⟩ := hs'
    obtain ⟨rfl, rfl, rfl, hz⟩ := h1
    have h2 : l.length = n := h2
    subst h2
    obtain ⟨ej, hej, hgj⟩ := gives_list hj hz
    have hG : Gives H [id, j] (EK2 b t' cs l A c) := ⟨⟨_, hsub _ _ hid, gives_blk rfl⟩, ⟨_, hsub _ _ hej, hgj⟩, trivial⟩
    have hnd : [id, j].Nodup := by simp [hne]
    have hin0 : HSat w (fun g => g = b) (heapOf (EK2 b t' cs l A c)) w := mutE_EK2 b t' cs l A c ▸ hH.enter hnd hG
    have hin : InK b t' cs l A c w := ⟨by rw [EK_EK2]; exact leaveN hin0 (HSat.start w) nilId (fun w => nil_holds w) rfl⟩
    have hblk : w.heap[b]? = some (.cells ((C.sl j A l.length c :: cs).map C.den).toArray t' (0, 0)) := hH.holds _ _ (hsub _ _ hid)
    split at h3
    · rename_i p r hF
      obtain ⟨hmk, hcall⟩ := hk l cs rest p r none hF h3.1.h
      refine (hcall b A c w hin).mono ?_
      rintro e w' ⟨v, Hc, rfl, ⟨hr, qb, qt, qc, cs', hq, hc, he⟩, hHc⟩
      injection hq with q1 q2 q3
      rw [← q1, ← q2] at hc
      rw [← q3] at he
      have hH' := HSat.shut hblk hHc hc he
      have hr' := hr.shut hc
      have hK : ∀ K : KT, recT t' F kid (.c (.loc id b 0) :: rest) H0 d K → resK kid r d K := fun K hK => by
        unfold recT at hK
        simp only [hid, hj] at hK
        obtain ⟨_, _, ⟨l2, hl2, _, h⟩⟩ := hK
        have := encL_inj _ _ hl2
        subst this
        rw [hF] at h
        exact h.2
      obtain ⟨hr'⟩ := hr'
      cases r with
      | val v0 => exact ⟨v0, [], _, rfl, fun K h => hK K h, fun _ => hr', hH.below hH'.isBelow⟩
      | row t z n xs mk =>
        obtain ⟨i, A2, c2, rfl, hi⟩ := hr'
        refine ⟨mk (.sl d A2 n c2), [(d, some (.row A2 c2 t z n xs))], _, rfl, fun K h => hK K h A2 c2, fun _ => hmk _ _ rfl, ?_⟩
        rcases hi with hi | ⟨rfl, rfl, rfl, rfl⟩
        · exact leaveR hH hi rfl hH' d
        · exact leaveN hH hH' d (free_row t z).1 (free_row t z).2
      | alt b x mk1 r mk2 =>
        cases b with
        | true => exact ⟨mk1 x, [], _, rfl, fun K h => hK K h, fun _ => hr'.1 rfl, hH.below hH'.isBelow⟩
        | false =>
          obtain ⟨i, A2, c2, rfl, hi⟩ := hr'.2 rfl
          refine ⟨mk2 (.sl d A2 r.length c2), [(d, some (.row A2 c2 53 6 r.length (encL r)))], _, rfl, fun K h => hK K h A2 c2, fun _ => hmk _ _ rfl, ?_⟩
          rcases hi with hi | ⟨rfl, rfl, rfl⟩
          · exact leaveR hH hi rfl hH' d
          · exact leaveN hH hH' d (free_row 53 6).1 (free_row 53 6).2
    · rename_i p v0 cs2 hF
      obtain ⟨hmk, hcall⟩ := hk l cs rest p (.val v0) (some cs2) hF h3.1.h
      refine (hcall b A c w hin).mono ?_
      rintro e w' ⟨v, Hc, rfl, ⟨⟨hr⟩, qb, qt, qc, cs', hq, hc, he⟩, hHc⟩
      injection hq with q1 q2 q3
      rw [← q1, ← q2] at hc
      rw [← q3] at he
      have hr : v.den = v0.den := hr
      refine ⟨v0, [(id, some (.blk b t' (.sl j A l.length c :: cs2)))], _, rfl, fun K hK => ?_, fun _ => hr, ?_⟩
      · unfold recT at hK
        simp only [hid, hj] at hK
        obtain ⟨_, _, ⟨l2, hl2, _, h⟩⟩ := hK
        have := encL_inj _ _ hl2
        subst this
        rw [hF] at h
        exact h.2
      · refine hH.leave hnd hG (by rw [mutE_EK2]; exact hHc) _ [(id, 200000)] ?_ ?_ (by simp)
        · intro q hq
          rw [List.mem_singleton.1 hq]
          exact ⟨_, _, hc, by simp [upds, upd_apply], gives_blk (cs' := .sl j A l.length c :: cs2) he, rfl⟩
        · intro i hi
          have hi1 : id ≠ i := fun e => hi (id, 200000) (by simp) e
          refine .inr ⟨upds_other _ H i (by simp [hi1]), fun k t e hk1 hk2 => ?_⟩
          match k, hk1, hk2 with
          | 0, h1, h => simp at h; exact absurd h hi1
          | 1, h1, h =>
            simp [EK2] at h1
            obtain ⟨_, rfl⟩ := h1
            rfl
          | k + 2, h1, h => simp at h
    · exact h3.elim
end
end Go.Proofs.Ytbcicjmepojlnaa.Eng
