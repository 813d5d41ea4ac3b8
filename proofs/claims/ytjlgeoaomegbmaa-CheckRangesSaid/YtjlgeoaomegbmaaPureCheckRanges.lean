/- CheckRanges: of all addresses and numbers the range, or its error, is the reference's; no condition. -/
import Derived.Test.YtjlgeoaomegbmaaPCheckRangesx1
import Derived.OpenShut
import Derived.Laws.Entries
namespace Go.Proofs.Ytjlgeoaomegbmaa.Pure
open Go.RowKit Go.Proofs.Ytjlgeoaomegbmaa.PCheckRanges Go.Proofs.YtjlgeoaomegbmaaW.PrintWords Go.Proofs.YtjlgeoaomegbmaaW.PrintLast

theorem pages_loop (n : Int) (h0 : 0 < n) (h1 : n ≤ 2031616) (d : Nat) : ∀ (k : Nat) (p : Int), 0 ≤ p → p ≤ (n + 4095) / 4096 → (n + 4095) / 4096 - p = d → d < k →
    samararef09_Pages.l0 k n p = some ((n + 4095) / 4096) := by
  induction d with
  | zero =>
    intro k p hp hc hd hk
    obtain ⟨k, rfl⟩ : ∃ m, k = m + 1 := ⟨k - 1, by omega⟩
    have e : p = (n + 4095) / 4096 := by omega
    simp only [samararef09_Pages.l0]
    rw [if_neg (by unfold wrap64; omega), e]
  | succ d ih =>
    intro k p hp hc hd hk
    obtain ⟨k, rfl⟩ : ∃ m, k = m + 1 := ⟨k - 1, by omega⟩
    simp only [samararef09_Pages.l0]
    rw [if_pos (by unfold wrap64; omega)]
    have e : wrap64 (p + 1) = p + 1 := by unfold wrap64; omega
    rw [e]
    exact ih k (p + 1) (by omega) (by omega) (by omega) (by omega)

theorem size_mid (n : Int) (h0 : 0 < n) (h1 : n ≤ 2031616) : check_Size.f n = some (4096 * ((n + 4095) / 4096), 0) := by
  unfold check_Size.f
  rw [if_neg (by omega), if_neg (by omega), if_neg (by omega)]
  have e1 : wrap64 (wrap64 (n + 4096) - 1) = n + 4095 := by unfold wrap64; omega
  rw [e1, Int.tdiv_eq_ediv_of_nonneg (by omega)]
  have e2 : wrap64 ((n + 4095) / 4096) = (n + 4095) / 4096 := by unfold wrap64; omega
  rw [e2]
  have e3 : wrap64 ((n + 4095) / 4096 * 4096) = 4096 * ((n + 4095) / 4096) := by unfold wrap64; omega
  rw [e3]

theorem awake_true : samaralaw09_awake.f = some true := by
  unfold samaralaw09_awake.f
  rw [size_mid 1 (by omega) (by omega)]
  rfl

theorem ref_size (n : Int) : samararef09_Size.f 1000 n = check_Size.f n := by
  by_cases h : 0 < n ∧ n ≤ 2031616
  · obtain ⟨h0, h1⟩ := h
    rw [size_mid n h0 h1]
    unfold samararef09_Size.f samararef09_Pages.f
    rw [if_neg (by omega), if_neg (by omega), if_neg (by omega)]
    rw [pages_loop n h0 h1 ((n + 4095) / 4096).toNat 1000 0 (by omega) (by omega) (by omega) (by omega)]
    simp only [Option.bind_some]
    have e : wrap64 (4096 * ((n + 4095) / 4096)) = 4096 * ((n + 4095) / 4096) := by unfold wrap64; omega
    rw [e]
  · unfold samararef09_Size.f check_Size.f
    by_cases a : n = 0
    · rw [if_pos a, if_pos a]
    · rw [if_neg a, if_neg a]
      by_cases b : n < 0
      · rw [if_pos b, if_pos b]
      · have c : n > 2031616 := by omega
        rw [if_neg b, if_neg b, if_pos c, if_pos c]

theorem size_tells (n : Int) : ∃ s e, check_Size.f n = some (s, e) ∧ ((e = 0 ∧ 0 < n ∧ n ≤ 2031616 ∧ s = 4096 * ((n + 4095) / 4096)) ∨ (s = 0 ∧ (e = 3 ∨ e = 4) ∧ ¬ (0 < n ∧ n ≤ 2031616))) := by
  by_cases h : 0 < n ∧ n ≤ 2031616
  · exact ⟨_, _, size_mid n h.1 h.2, .inl ⟨rfl, h.1, h.2, rfl⟩⟩
  · unfold check_Size.f
    by_cases a : n = 0
    · exact ⟨0, 3, by rw [if_pos a], .inr ⟨rfl, .inl rfl, h⟩⟩
    · by_cases b : n < 0
      · exact ⟨0, 4, by rw [if_neg a, if_pos b], .inr ⟨rfl, .inr rfl, h⟩⟩
      · exact ⟨0, 4, by rw [if_neg a, if_neg b, if_pos (by omega)], .inr ⟨rfl, .inr rfl, h⟩⟩

theorem CheckRanges : samaralaw09_CheckRanges.Pure := by
  intro a n wa wn
  have ba := bounds_i64 wa
  refine ⟨1000, ?_⟩
  have e : samararef09_Range.f 1000 a n = check_Range.f a n := by
    unfold samararef09_Range.f check_Range.f
    rw [ref_size]
    by_cases c : Int.tmod a 4096 = 0
    · rw [if_pos c, if_pos c]
      obtain ⟨s, e, hs, h⟩ := size_tells n
      rw [hs]
      simp only [Option.bind_some]
      rcases h with ⟨rfl, h0, h1, rfl⟩ | ⟨rfl, he, h⟩
      · rw [if_pos rfl, if_pos rfl]
        have ew : wrap64 (2097152 - 4096 * ((n + 4095) / 4096)) = 2097152 - 4096 * ((n + 4095) / 4096) := by unfold wrap64; omega
        rw [ew]
        by_cases b1 : a < 65536
        · rw [if_pos b1, if_pos b1]
        · rw [if_neg b1, if_neg b1]
          by_cases b2 : a > 2097152 - 4096 * ((n + 4095) / 4096)
          · rw [if_pos b2]
            by_cases b3 : a > 2097152
            · rw [if_pos b3]
            · have e2 : wrap64 (a + 4096 * ((n + 4095) / 4096)) = a + 4096 * ((n + 4095) / 4096) := by unfold wrap64; omega
              rw [if_neg b3, e2, if_pos (by omega)]
          · have e2 : wrap64 (a + 4096 * ((n + 4095) / 4096)) = a + 4096 * ((n + 4095) / 4096) := by unfold wrap64; omega
            rw [if_neg b2, if_neg (by omega), e2, if_neg (by omega)]
      · rw [if_neg (by omega), if_neg (by omega)]
    · rw [if_neg c, if_neg c]
  obtain ⟨lo, hi, g, hr⟩ : ∃ lo hi g, check_Range.f a n = some (lo, hi, g) := by
    obtain ⟨s, e, hs, h⟩ := size_tells n
    unfold check_Range.f
    rw [hs]
    simp only [Option.bind_some]
    repeat' split
    all_goals exact ⟨_, _, _, rfl⟩
  unfold samaralaw09_CheckRanges.f
  rw [e, hr, awake_true]
  simp

end Go.Proofs.Ytjlgeoaomegbmaa.Pure
