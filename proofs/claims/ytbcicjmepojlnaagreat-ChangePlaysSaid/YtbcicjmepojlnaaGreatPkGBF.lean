/- Texts of this work, laid together: symbolic execution over the model, contracts of the program's functions, what they come to; conditions: as each says. -/
import Derived.Test.YtbcicjmepojlnaaGreatPkGBD
import Derived.Test.YtbcicjmepojlnaaGreatPkGBE
/- Loops over gaps; the reference's free pages, choices; no condition but those typed. -/
namespace Go.Proofs.YtbcicjmepojlnaaGreat.Eng
open Go Go.RowKit
set_option autoImplicit false
set_option linter.unusedSimpArgs false
set_option linter.unusedVariables false
theorem g_take {l : List Gp} {i : Nat} (h : i < l.length) : takeN (encG l) (((i : Nat) : Int).toNat * 2) 2 = some [.v (.int .i64 (nthG l i).s), .v (.int .i64 (nthG l i).e)] := by
  rw [Int.toNat_natCast]
  exact enc_take encGp_len (by decide) l i _ (nthG_get h)
theorem g_ix {l : List Gp} {i : Nat} (h : i < l.length) : 0 < 2 ∧ 0 ≤ ((i : Nat) : Int) ∧ ((i : Nat) : Int) < (l.length : Int) := by omega
theorem g_next {l : List Gp} {i : Nat} (h : i < l.length) : l.take (i + 1) = l.take i ++ [nthG l i] := by
  have h2 := nthG_get h
  rw [List.take_add_one, h2]
  rfl
theorem nthG_mem {l : List Gp} {i : Nat} (h : i < l.length) : nthG l i ∈ l := List.mem_of_getElem? (nthG_get h)
def largeStep (n : Int) (g : Gp) : Int := maxI n (w64 (g.e - g.s))
def largeF (l : List Gp) : Int := l.foldl largeStep 0
theorem large_next {l : List Gp} {i : Nat} (h : i < l.length) : largeStep (largeF (l.take i)) (nthG l i) = largeF (l.take (i + 1)) := by
  unfold largeF
  rw [g_next h, List.foldl_append]
  rfl
def fitG (a n : Int) (g : Gp) : Bool := decide (a ≥ g.s) && decide (w64 (a + n) ≤ g.e)
section
variable {l : List Ar} {a n : Int}
theorem fits_a (h : sizeG n = false) : fitsL l a n = false := by unfold fitsL; rw [if_pos (by rw [h]; simp)]
theorem fits_b (h : (Int.tmod a 4096 != 0) = true) : fitsL l a n = false := by unfold fitsL; rw [if_pos (by rw [h]; simp)]
theorem fits_c (h : decide (a < 65536) = true) : fitsL l a n = false := by unfold fitsL; rw [if_pos (by rw [h]; simp)]
theorem fits_d (h : decide (IntKind.i64.wrap (2097152 - n) < a) = true) : fitsL l a n = false := by unfold fitsL; rw [if_pos (by rw [show decide (a > w64 (2097152 - n)) = true from h]; simp)]
theorem fits_e (h1 : sizeG n = true) (h2 : (Int.tmod a 4096 != 0) = false) (h3 : decide (a < 65536) = false) (h4 : decide (IntKind.i64.wrap (2097152 - n) < a) = false) : fitsL l a n = (gapsL l).any (fitG a n) := by
  unfold fitsL
  rw [if_neg (by rw [h1, h2, h3, show decide (a > w64 (2097152 - n)) = false from h4]; simp)]
  rfl
end
def NoneTo (p : Gp → Bool) (l : List Gp) (i : Nat) : Prop := ∀ j, j < i → p (nthG l j) = false
theorem none_next {p : Gp → Bool} {l : List Gp} {i : Nat} (h : NoneTo p l i) (hi : p (nthG l i) = false) : NoneTo p l (i + 1) := fun j hj => by
  by_cases hji : j = i
  · subst hji; exact hi
  · exact h j (by omega)
theorem any_here {p : Gp → Bool} {l : List Gp} {i : Nat} (hi : i < l.length) (h : p (nthG l i) = true) : l.any p = true := List.any_eq_true.2 ⟨_, nthG_mem hi, h⟩
theorem any_none {p : Gp → Bool} {l : List Gp} {i : Nat} (hi : ¬ i < l.length) (h : NoneTo p l i) : l.any p = false := by
  cases hb : l.any p with
  | false => rfl
  | true =>
    obtain ⟨g, hg, h2⟩ := List.any_eq_true.1 hb
    obtain ⟨j, hj, rfl⟩ := List.getElem_of_mem hg
    have h3 := nthG_get hj
    rw [List.getElem?_eq_getElem hj] at h3
    injection h3 with h3
    rw [h3, h j (by omega)] at h2
    cases h2
theorem fitG_y {a n : Int} {g : Gp} (h1 : decide (g.s ≤ a) = true) (h2 : decide (IntKind.i64.wrap (a + n) ≤ g.e) = true) : fitG a n g = true := by
  unfold fitG
  rw [show decide (a ≥ g.s) = true from h1, show decide (w64 (a + n) ≤ g.e) = true from h2]
  rfl
theorem fitG_n1 {a n : Int} {g : Gp} (h1 : decide (g.s ≤ a) = false) : fitG a n g = false := by
  unfold fitG
  rw [show decide (a ≥ g.s) = false from h1]
  rfl
theorem fitG_n2 {a n : Int} {g : Gp} (h2 : decide (IntKind.i64.wrap (a + n) ≤ g.e) = false) : fitG a n g = false := by
  unfold fitG
  rw [show decide (w64 (a + n) ≤ g.e) = false from h2, Bool.and_false]
theorem gapsL_len {l : List Ar} {m : Nat} (h : l.length ≤ m) : (gapsL l).length ≤ m + 1 := by
  unfold gapsL
  split
  · have := gapsE_len l; omega
  · simp
/-! ### The reference's -/
def freeK (s : List Pg) (q k : Nat) : Bool := (List.range k).all fun j => !(nthP s (q + j)).is
theorem freeK_iff (s : List Pg) (q k : Nat) : freeK s q k = true ↔ ∀ j, q ≤ j → j < q + k → (nthP s j).is = false := by
  unfold freeK
  rw [List.all_eq_true]
  constructor
  · intro h j h1 h2
    have := h (j - q) (List.mem_range.2 (by omega))
    rw [show q + (j - q) = j by omega] at this
    simpa using this
  · intro h j hj
    have := h (q + j) (by omega) (by have := List.mem_range.1 hj; omega)
    rw [this]
    rfl
def freeS (s : List Pg) (p n : Int) : Bool := if (decide (p < 16) || decide (n < 1) || decide (n > 496) || decide (p + n > 512)) = true then false else freeK s p.toNat n.toNat
def FreeTo (s : List Pg) (q k : Nat) : Prop := ∀ j, q ≤ j → j < q + k → (nthP s j).is = false
theorem freeTo_next {s : List Pg} {q k : Nat} (h : FreeTo s q k) (hi : (nthP s (q + k)).is = false) : FreeTo s q (k + 1) := fun j h1 h2 => by
  by_cases hj : j = q + k
  · subst hj; exact hi
  · exact h j h1 (by omega)
section
variable {s : List Pg} {p n : Int}
theorem free_a (h : decide (p < 16) = true) : freeS s p n = false := by unfold freeS; rw [if_pos (by rw [h]; simp)]
theorem free_b (h : decide (n < 1) = true) : freeS s p n = false := by unfold freeS; rw [if_pos (by rw [h]; simp)]
theorem free_c (h : decide (496 < n) = true) : freeS s p n = false := by unfold freeS; rw [if_pos (by rw [show decide (n > 496) = true from h]; simp)]
theorem free_d (hp : In64 p) (h1 : decide (p < 16) = false) (h2 : decide (n < 1) = false) (h3 : decide (496 < n) = false) (h : decide (512 < IntKind.i64.wrap (p + n)) = true) (hp2 : p ≤ 9223372036854775000) : freeS s p n = false := by
  have a1 := of_decide_eq_false h1
  have a2 := of_decide_eq_false h2
  have a3 := of_decide_eq_false h3
  have a4 := of_decide_eq_true h
  have e : w64 (p + n) = p + n := w64_id (by unfold In64; omega)
  rw [show IntKind.i64.wrap (p + n) = p + n from e] at a4
  unfold freeS
  rw [if_pos (by rw [show decide (p + n > 512) = true by rw [decide_eq_true_eq]; omega]; simp)]
theorem free_e (hp2 : p ≤ 9223372036854775000) (h1 : decide (p < 16) = false) (h2 : decide (n < 1) = false) (h3 : decide (496 < n) = false) (h : decide (512 < IntKind.i64.wrap (p + n)) = false) : IntKind.i64.wrap (p + n) = ((p.toNat + n.toNat : Nat) : Int) ∧ p = (p.toNat : Int) ∧ p.toNat + n.toNat ≤ 512 ∧ freeS s p n = freeK s p.toNat n.toNat := by
  have a1 := of_decide_eq_false h1
  have a2 := of_decide_eq_false h2
  have a3 := of_decide_eq_false h3
  have a4 := of_decide_eq_false h
  have e : w64 (p + n) = p + n := w64_id (by unfold In64; omega)
  rw [show IntKind.i64.wrap (p + n) = p + n from e] at a4 ⊢
  refine ⟨by omega, by omega, by omega, ?_⟩
  unfold freeS
  rw [if_neg (by simp; omega)]
theorem free_here {q m k : Nat} (hk : k < m) (h : (nthP s (q + k)).is = true) : freeK s q m = false := by
  cases hb : freeK s q m with
  | false => rfl
  | true =>
    have := (freeK_iff s q m).1 hb (q + k) (by omega) (by omega)
    rw [h] at this
    cases this
theorem free_all {q m : Nat} (h : FreeTo s q m) : freeK s q m = true := (freeK_iff s q m).2 h
end
theorem freeS_iff {l : List Ar} (hl : Ok l) {a n : Int} (ha : a % 4096 = 0) (h1 : 65536 ≤ a) (hn : 4096 ≤ n ∧ n ≤ 2031616 ∧ n % 4096 = 0) (h2 : a + n ≤ 2097152) : freeS (ofL l) (a / 4096) (n / 4096) = true ↔ FreeR l a (a + n) := by
  unfold freeS
  rw [if_neg (by simp; omega), freeK_iff]
  constructor
  · intro h x hx c1 c2 t ht
    have := h (x / 4096).toNat (by omega) (by omega)
    rw [(has_of hl (q := (x / 4096).toNat) (t := t) (by rw [show (4096 * ((x / 4096).toNat : Int)) = x by omega]; exact ht)).1] at this
    cases this
  · intro h j c1 c2
    cases hb : (nthP (ofL l) j).is with
    | false => rfl
    | true => exact absurd (of_has hl (q := j) (by omega) (by omega) hb) (h _ (by omega) (by omega) (by omega) _)
def okP (l : List Ar) (lo hi n : Int) (q : Nat) : Bool := decide (4096 * (q : Int) ≥ lo) && decide (hi ≥ 4096 * (q : Int) + n) && freeS (ofL l) q (n / 4096)
def chF (l : List Ar) (lo hi n : Int) (gr : Bool) : Nat → Int
  | 0 => -1
  | k + 1 => if (okP l lo hi n (16 + k) && (decide (chF l lo hi n gr k < 0) || gr)) = true then 4096 * ((16 + k : Nat) : Int) else chF l lo hi n gr k
def chooseL (l : List Ar) (lo hi n : Int) (gr : Bool) : Int := if gr = true then (if (highN l lo hi n).2 = true then (highN l lo hi n).1 else -1) else (if (lowN l lo hi n).2 = true then (lowN l lo hi n).1 else -1)
theorem okP_iff {l : List Ar} (hl : Ok l) {lo hi n : Int} (hn : 4096 ≤ n ∧ n ≤ 2031616 ∧ n % 4096 = 0) {q : Nat} (h0 : 16 ≤ q) (hq : q < 512) : okP l lo hi n q = true ↔ GoodA l lo hi n (4096 * q) := by
  unfold okP
  rw [Bool.and_eq_true, Bool.and_eq_true, decide_eq_true_eq, decide_eq_true_eq]
  by_cases h : 4096 * (q : Int) + n ≤ 2097152
  · have hf := freeS_iff hl (a := 4096 * (q : Int)) (n := n) (by omega) (by omega) hn h
    rw [show 4096 * (q : Int) / 4096 = (q : Int) by omega] at hf
    rw [hf]
    exact ⟨fun ⟨⟨c1, c2⟩, c3⟩ => ⟨by omega, by omega, h, c1, c2, c3⟩, fun ⟨_, _, _, c1, c2, c3⟩ => ⟨⟨c1, c2⟩, c3⟩⟩
  · constructor
    · rintro ⟨_, c3⟩
      unfold freeS at c3
      rw [if_pos (by simp; omega)] at c3
      cases c3
    · intro hg
      exact absurd hg.h1 h
theorem chF_low (l : List Ar) (lo hi n : Int) : ∀ k : Nat, (chF l lo hi n false k = -1 ∧ ∀ q, 16 ≤ q → q < 16 + k → okP l lo hi n q = false) ∨ ∃ q, 16 ≤ q ∧ q < 16 + k ∧ chF l lo hi n false k = 4096 * (q : Int) ∧ okP l lo hi n q = true ∧ ∀ q', 16 ≤ q' → q' < q → okP l lo hi n q' = false
  | 0 => .inl ⟨rfl, fun q h1 h2 => by omega⟩
  | k + 1 => by
    rcases chF_low l lo hi n k with ⟨h1, h2⟩ | ⟨q, h1, h2, h3, h4, h5⟩
    · cases ho : okP l lo hi n (16 + k) with
      | true =>
        refine .inr ⟨16 + k, by omega, by omega, ?_, ho, h2⟩
        show (if _ then _ else _) = _
        rw [ho, h1, if_pos (by rfl)]
      | false =>
        refine .inl ⟨?_, fun q c1 c2 => ?_⟩
        · show (if _ then _ else _) = _
          rw [ho, if_neg (by simp)]
          exact h1
        · by_cases hq : q = 16 + k
          · subst hq; exact ho
          · exact h2 q c1 (by omega)
    · refine .inr ⟨q, h1, by omega, ?_, h4, h5⟩
      show (if _ then _ else _) = _
      rw [h3, if_neg (by rw [show decide (4096 * (q : Int) < 0) = false by rw [decide_eq_false_iff_not]; omega]; simp)]
theorem chF_high (l : List Ar) (lo hi n : Int) : ∀ k : Nat, (chF l lo hi n true k = -1 ∧ ∀ q, 16 ≤ q → q < 16 + k → okP l lo hi n q = false) ∨ ∃ q, 16 ≤ q ∧ q < 16 + k ∧ chF l lo hi n true k = 4096 * (q : Int) ∧ okP l lo hi n q = true ∧ ∀ q', q < q' → q' < 16 + k → okP l lo hi n q' = false
  | 0 => .inl ⟨rfl, fun q h1 h2 => by omega⟩
  | k + 1 => by
    cases ho : okP l lo hi n (16 + k) with
    | true =>
      refine .inr ⟨16 + k, by omega, by omega, ?_, ho, fun q' c1 c2 => by omega⟩
      show (if _ then _ else _) = _
      rw [ho, Bool.or_true, if_pos (by rfl)]
    | false =>
      have e : chF l lo hi n true (k + 1) = chF l lo hi n true k := by
        show (if _ then _ else _) = _
        rw [ho, if_neg (by simp)]
      rw [e]
      rcases chF_high l lo hi n k with ⟨h1, h2⟩ | ⟨q, h1, h2, h3, h4, h5⟩
      · refine .inl ⟨h1, fun q c1 c2 => ?_⟩
        by_cases hq : q = 16 + k
        · subst hq; exact ho
        · exact h2 q c1 (by omega)
      · refine .inr ⟨q, h1, by omega, h3, h4, fun q' c1 c2 => ?_⟩
        by_cases hq : q' = 16 + k
        · subst hq; exact ho
        · exact h5 q' c1 (by omega)
theorem good_q {l : List Ar} {lo hi n a : Int} (h : GoodA l lo hi n a) (hn : 4096 ≤ n) : ∃ q : Nat, 16 ≤ q ∧ q < 512 ∧ a = 4096 * (q : Int) := by
  have := h.z
  have := h.l1
  have := h.h1
  exact ⟨(a / 4096).toNat, by omega, by omega, by omega⟩
theorem choose_yes {l : List Ar} (hl : Rt l) {lo hi n : Int} (hn : sizeG n = true) (h64 : In64 n) (gr : Bool) : chF l lo hi n gr 496 = chooseL l lo hi n gr := by
  have hs := (sizeG_iff h64).1 hn
  unfold chooseL
  cases gr with
  | false =>
    rw [if_neg (by simp)]
    obtain ⟨s1, s2⟩ := low_spec hl (lo := lo) (hi := hi) hn h64
    rcases chF_low l lo hi n 496 with ⟨h1, h2⟩ | ⟨q, h1, h2, h3, h4, h5⟩
    · cases hb : (lowN l lo hi n).2 with
      | false => rw [if_neg (by simp)]; exact h1
      | true =>
        obtain ⟨g1, _⟩ := s1 hb
        obtain ⟨q, c1, c2, c3⟩ := good_q g1 (by omega)
        rw [c3] at g1
        have := (okP_iff hl.ok hs c1 c2).2 g1
        rw [h2 q c1 (by omega)] at this
        cases this
    · have hg := (okP_iff hl.ok hs h1 (by omega)).1 h4
      cases hb : (lowN l lo hi n).2 with
      | false => exact absurd hg ((s2 hb).2 _)
      | true =>
        rw [if_pos rfl, h3]
        obtain ⟨g1, g2⟩ := s1 hb
        have := g2 _ hg
        obtain ⟨q', c1, c2, c3⟩ := good_q g1 (by omega)
        rw [c3] at g1 this ⊢
        by_cases hlt : q' < q
        · have h6 := (okP_iff hl.ok hs c1 c2).2 g1
          rw [h5 q' c1 hlt] at h6
          cases h6
        · omega
  | true =>
    rw [if_pos rfl]
    obtain ⟨s1, s2⟩ := high_spec hl (lo := lo) (hi := hi) hn h64
    rcases chF_high l lo hi n 496 with ⟨h1, h2⟩ | ⟨q, h1, h2, h3, h4, h5⟩
    · cases hb : (highN l lo hi n).2 with
      | false => rw [if_neg (by simp)]; exact h1
      | true =>
        obtain ⟨g1, _⟩ := s1 hb
        obtain ⟨q, c1, c2, c3⟩ := good_q g1 (by omega)
        rw [c3] at g1
        have := (okP_iff hl.ok hs c1 c2).2 g1
        rw [h2 q c1 (by omega)] at this
        cases this
    · have hg := (okP_iff hl.ok hs h1 (by omega)).1 h4
      cases hb : (highN l lo hi n).2 with
      | false => exact absurd hg ((s2 hb).2 _)
      | true =>
        rw [if_pos rfl, h3]
        obtain ⟨g1, g2⟩ := s1 hb
        have := g2 _ hg
        obtain ⟨q', c1, c2, c3⟩ := good_q g1 (by omega)
        rw [c3] at g1 this ⊢
        by_cases hlt : q < q'
        · have h6 := (okP_iff hl.ok hs c1 c2).2 g1
          rw [h5 q' hlt (by omega)] at h6
          cases h6
        · omega
theorem choose_no {l : List Ar} {lo hi n : Int} (hn : sizeG n = false) (gr : Bool) : chooseL l lo hi n gr = -1 := by
  unfold chooseL
  rw [low_no (.inl hn), high_no (.inl hn)]
  cases gr <;> rfl
end Go.Proofs.YtbcicjmepojlnaaGreat.Eng
/- The reference's Fits and Choose, and the program's; no condition but those typed. -/
namespace Go.Proofs.YtbcicjmepojlnaaGreat.Eng
open Go Go.RowKit
set_option autoImplicit false
set_option linter.unusedSimpArgs false
set_option linter.unusedVariables false
theorem sizeG_no {n : Int} (h64 : In64 n) (h : n < 1 ∨ 2031616 < n ∨ n % 4096 ≠ 0) : sizeG n = false := by
  cases hb : sizeG n with
  | false => rfl
  | true =>
    have := (sizeG_iff h64).1 hb
    omega
theorem sizeG_yes {n : Int} (h64 : In64 n) (h1 : decide (n < 1) = false) (h2 : decide (2031616 < n) = false) (h3 : (Int.tmod n 4096 != 0) = false) : sizeG n = true := by
  have a1 := of_decide_eq_false h1
  have a2 := of_decide_eq_false h2
  have a3 := (tmod0 n).1 h3
  exact (sizeG_iff h64).2 ⟨by omega, by omega, a3⟩
section
variable {l : List Ar} {a n : Int}
theorem tmod1 {n : Int} (h : (Int.tmod n 4096 != 0) = true) : n % 4096 ≠ 0 := fun hc => by
  rw [(tmod0 n).2 hc] at h
  cases h
theorem rf_n {n : Int} (h64 : In64 n) (h : decide (n < 1) = true ∨ decide (2031616 < n) = true ∨ (Int.tmod n 4096 != 0) = true) : fitsL l a n = false :=
  fits_a (sizeG_no h64 (by
    rcases h with h | h | h
    · exact .inl (of_decide_eq_true h)
    · exact .inr (.inl (of_decide_eq_true h))
    · exact .inr (.inr (tmod1 h))))
theorem rf_a (hl : Rt l) (ha : In64 a) (h64 : In64 n) (h : (Int.tmod a 4096 != 0) = true ∨ decide (a < 0) = true ∨ decide (2097152 < a) = true) : fitsL l a n = false := by
  cases hb : fitsL l a n with
  | false => rfl
  | true =>
    have hk := (fits_iff hl ha h64).1 hb
    have hs := (sizeG_iff h64).1 hk.1
    rcases h with h | h | h
    · exact absurd hk.2.1 (tmod1 h)
    · have := of_decide_eq_true h; omega
    · have := of_decide_eq_true h; omega
theorem rf_q {x : Int} (h1 : 0 ≤ x) (h2 : x ≤ 2097152) : IntKind.i64.wrap (Int.tdiv x 4096) = x / 4096 := by
  rw [tdiv_pos h1]
  exact w64_id (by unfold In64; omega)
theorem rf_yes (hl : Rt l) (ha : In64 a) (h64 : In64 n) (h1 : decide (n < 1) = false) (h2 : decide (2031616 < n) = false) (h3 : (Int.tmod n 4096 != 0) = false) (h4 : (Int.tmod a 4096 != 0) = false) (h5 : decide (a < 0) = false) (h6 : decide (2097152 < a) = false) :
    fitsL l a n = freeS (ofL l) (IntKind.i64.wrap (Int.tdiv a 4096)) (IntKind.i64.wrap (Int.tdiv n 4096)) := by
  have hs := sizeG_yes h64 h1 h2 h3
  have hn := (sizeG_iff h64).1 hs
  have a4 := (tmod0 a).1 h4
  have a5 := of_decide_eq_false h5
  have a6 := of_decide_eq_false h6
  rw [rf_q (by omega) (by omega), rf_q (by omega) (by omega)]
  by_cases hc : 65536 ≤ a ∧ a + n ≤ 2097152
  · have hf := freeS_iff hl.ok a4 hc.1 hn hc.2
    cases hb : freeS (ofL l) (a / 4096) (n / 4096) with
    | true => exact (fits_iff hl ha h64).2 ⟨hs, a4, hc.1, hc.2, hf.1 hb⟩
    | false =>
      cases hb2 : fitsL l a n with
      | false => rfl
      | true =>
        have := hf.2 ((fits_iff hl ha h64).1 hb2).2.2.2.2
        rw [hb] at this
        cases this
  · have e1 : freeS (ofL l) (a / 4096) (n / 4096) = false := by
      unfold freeS
      rw [if_pos (by simp; omega)]
    rw [e1]
    cases hb2 : fitsL l a n with
    | false => rfl
    | true =>
      have := (fits_iff hl ha h64).1 hb2
      exact absurd ⟨this.2.2.1, this.2.2.2.1⟩ hc
end
section
variable {l : List Ar} {lo hi n : Int} {gr : Bool} {k : Nat}
theorem ch_mul (hk : k < 496) : IntKind.i64.wrap (4096 * ((16 + k : Nat) : Int)) = 4096 * ((16 + k : Nat) : Int) := w64_id (by unfold In64; omega)
theorem ch_add (hk : k < 496) (h1 : ¬ n < 1) (h2 : ¬ 2031616 < n) : IntKind.i64.wrap (4096 * ((16 + k : Nat) : Int) + n) = 4096 * ((16 + k : Nat) : Int) + n := w64_id (by unfold In64; omega)
theorem ch_of (hk : k < 496) (h1 : decide (n < 1) = false) (h2 : decide (2031616 < n) = false) : IntKind.i64.wrap (IntKind.i64.wrap (4096 * ((16 + k : Nat) : Int)) + n) = 4096 * ((16 + k : Nat) : Int) + n ∧ IntKind.i64.wrap (Int.tdiv n 4096) = n / 4096 := by
  have a1 := of_decide_eq_false h1
  have a2 := of_decide_eq_false h2
  rw [ch_mul hk, ch_add hk a1 a2]
  exact ⟨rfl, rf_q (by omega) (by omega)⟩
theorem ch_yes (hk : k < 496) (h1 : decide (n < 1) = false) (h2 : decide (2031616 < n) = false) (c1 : decide (lo ≤ IntKind.i64.wrap (4096 * ((16 + k : Nat) : Int))) = true) (c2 : decide (IntKind.i64.wrap (IntKind.i64.wrap (4096 * ((16 + k : Nat) : Int)) + n) ≤ hi) = true) (c3 : freeS (ofL l) ((16 + k : Nat) : Int) (IntKind.i64.wrap (Int.tdiv n 4096)) = true) (c4 : decide (chF l lo hi n gr k < 0) = true ∨ gr = true) : IntKind.i64.wrap (4096 * ((16 + k : Nat) : Int)) = chF l lo hi n gr (k + 1) := by
  obtain ⟨e1, e2⟩ := ch_of (n := n) hk h1 h2
  rw [e1] at c2
  rw [e2] at c3
  rw [ch_mul hk] at c1 ⊢
  show _ = if _ then _ else _
  have hb : okP l lo hi n (16 + k) = true := by
    unfold okP
    rw [c3, show decide (4096 * ((16 + k : Nat) : Int) ≥ lo) = true from c1, show decide (hi ≥ 4096 * ((16 + k : Nat) : Int) + n) = true from c2]
    rfl
  rw [if_pos]
  rw [hb]
  rcases c4 with h | h
  · rw [h]; rfl
  · rw [h, Bool.or_true]; rfl
theorem ch_no (h : okP l lo hi n (16 + k) = false ∨ (decide (chF l lo hi n gr k < 0) = false ∧ gr = false)) : chF l lo hi n gr k = chF l lo hi n gr (k + 1) := by
  show _ = if _ then _ else _
  rw [if_neg]
  rcases h with h | ⟨h1, h2⟩
  · rw [h]; simp
  · rw [h1, h2]; simp
theorem ch_n1 (hk : k < 496) (c1 : decide (lo ≤ IntKind.i64.wrap (4096 * ((16 + k : Nat) : Int))) = false) : chF l lo hi n gr k = chF l lo hi n gr (k + 1) := by
  rw [ch_mul hk] at c1
  refine ch_no (.inl ?_)
  unfold okP
  rw [show decide (4096 * ((16 + k : Nat) : Int) ≥ lo) = false from c1]
  rfl
theorem ch_n2 (hk : k < 496) (h1 : decide (n < 1) = false) (h2 : decide (2031616 < n) = false) (c2 : decide (IntKind.i64.wrap (IntKind.i64.wrap (4096 * ((16 + k : Nat) : Int)) + n) ≤ hi) = false) : chF l lo hi n gr k = chF l lo hi n gr (k + 1) := by
  obtain ⟨e1, e2⟩ := ch_of (n := n) hk h1 h2
  rw [e1] at c2
  refine ch_no (.inl ?_)
  unfold okP
  rw [show decide (hi ≥ 4096 * ((16 + k : Nat) : Int) + n) = false from c2, Bool.and_false]
  rfl
theorem ch_n3 (hk : k < 496) (h1 : decide (n < 1) = false) (h2 : decide (2031616 < n) = false) (c3 : freeS (ofL l) ((16 + k : Nat) : Int) (IntKind.i64.wrap (Int.tdiv n 4096)) = false) : chF l lo hi n gr k = chF l lo hi n gr (k + 1) := by
  rw [(ch_of (n := n) hk h1 h2).2] at c3
  refine ch_no (.inl ?_)
  unfold okP
  rw [c3, Bool.and_false]
theorem ch_n4 (c4 : decide (chF l lo hi n gr k < 0) = false) (c5 : gr = false) : chF l lo hi n gr k = chF l lo hi n gr (k + 1) := ch_no (.inr ⟨c4, c5⟩)
theorem ch_end (hl : Rt l) (h64 : In64 n) (h1 : decide (n < 1) = false) (h2 : decide (2031616 < n) = false) (h3 : (Int.tmod n 4096 != 0) = false) : chF l lo hi n gr 496 = chooseL l lo hi n gr := choose_yes hl (sizeG_yes h64 h1 h2 h3) h64 gr
theorem ch_bad (h64 : In64 n) (h : decide (n < 1) = true ∨ decide (2031616 < n) = true ∨ (Int.tmod n 4096 != 0) = true) : chooseL l lo hi n gr = -1 :=
  choose_no (sizeG_no h64 (by
    rcases h with h | h | h
    · exact .inl (of_decide_eq_true h)
    · exact .inr (.inl (of_decide_eq_true h))
    · exact .inr (.inr (tmod1 h)))) gr
end
theorem free_d' {s : List Pg} {p n : Int} (hp2 : p ≤ 9223372036854775000) (h1 : decide (p < 16) = false) (h2 : decide (n < 1) = false) (h3 : decide (496 < n) = false) (h : decide (512 < IntKind.i64.wrap (p + n)) = true) : freeS s p n = false :=
  free_d (by have := of_decide_eq_false h1; unfold In64; omega) h1 h2 h3 h hp2
theorem rf_q' {x : Int} (h1 : decide (x < 0) = false) (h2 : decide (2097152 < x) = false) : IntKind.i64.wrap (Int.tdiv x 4096) ≤ 9223372036854775000 := by
  have a1 := of_decide_eq_false h1
  have a2 := of_decide_eq_false h2
  rw [rf_q (by omega) (by omega)]
  omega
theorem good_fits {l : List Ar} (hl : Rt l) {lo hi n a : Int} (hn : sizeG n = true) (h64 : In64 n) (h : GoodA l lo hi n a) : fitsL l a n = true := by
  have hs := (sizeG_iff h64).1 hn
  exact (fits_iff hl (by have := h.l1; have := h.h1; unfold In64; omega) h64).2 ⟨hn, h.z, h.l1, h.h1, h.free⟩
theorem chooses {l : List Ar} (hl : Rt l) {lo hi n : Int} (h64 : In64 n) :
    ((lowN l lo hi n).2 = decide (0 ≤ chooseL l lo hi n false)) ∧ ((highN l lo hi n).2 = decide (0 ≤ chooseL l lo hi n true)) ∧ (lowN l lo hi n).2 = (highN l lo hi n).2 ∧
    ((lowN l lo hi n).2 = false → (lowN l lo hi n).1 = 0 ∧ (highN l lo hi n).1 = 0) ∧
    ((lowN l lo hi n).2 = true → (lowN l lo hi n).1 = chooseL l lo hi n false ∧ (highN l lo hi n).1 = chooseL l lo hi n true ∧ (lowN l lo hi n).1 ≤ (highN l lo hi n).1 ∧ fitsL l (lowN l lo hi n).1 n = true ∧ fitsL l (highN l lo hi n).1 n = true) := by
  cases hs : sizeG n with
  | false =>
    rw [choose_no hs, choose_no hs, low_no (.inl hs), high_no (.inl hs)]
    exact ⟨rfl, rfl, rfl, fun _ => ⟨rfl, rfl⟩, fun h => by cases h⟩
  | true =>
    obtain ⟨s1, s2⟩ := low_spec hl (lo := lo) (hi := hi) hs h64
    obtain ⟨t1, t2⟩ := high_spec hl (lo := lo) (hi := hi) hs h64
    unfold chooseL
    rw [if_neg (by simp), if_pos rfl]
    cases hb : (lowN l lo hi n).2 with
    | false =>
      cases hc : (highN l lo hi n).2 with
      | false =>
        rw [if_neg (by simp), if_neg (by simp)]
        exact ⟨rfl, rfl, rfl, fun _ => ⟨(s2 hb).1, (t2 hc).1⟩, fun h => by cases h⟩
      | true => exact absurd (t1 hc).1 ((s2 hb).2 _)
    | true =>
      cases hc : (highN l lo hi n).2 with
      | false => exact absurd (s1 hb).1 ((t2 hc).2 _)
      | true =>
        have g1 := (s1 hb).1
        have g2 := (t1 hc).1
        rw [if_pos rfl, if_pos rfl]
        have := g1.l1
        have := g2.l1
        exact ⟨(decide_eq_true (by omega)).symm, (decide_eq_true (by omega)).symm, rfl, (fun h => by cases h), fun _ => ⟨rfl, rfl, (s1 hb).2 _ g2, good_fits hl hs h64 g1, good_fits hl hs h64 g2⟩⟩
end Go.Proofs.YtbcicjmepojlnaaGreat.Eng
