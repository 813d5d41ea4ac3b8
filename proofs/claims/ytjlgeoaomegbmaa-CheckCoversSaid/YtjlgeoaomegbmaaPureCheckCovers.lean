/- CheckCovers: a range that is told has whole pages, lies in the space and covers what was asked; no condition. -/
import Derived.Test.YtjlgeoaomegbmaaPCheckCoversx1
import Derived.OpenShut
import Derived.Laws.Entries
namespace Go.Proofs.Ytjlgeoaomegbmaa.Pure
open Go.RowKit Go.Proofs.Ytjlgeoaomegbmaa.PCheckCovers Go.Proofs.YtjlgeoaomegbmaaW.PrintWords Go.Proofs.YtjlgeoaomegbmaaW.PrintLast

theorem size_mid (n : Int) (h0 : 0 < n) (h1 : n ≤ 2031616) : check_Size.f n = some (4096 * ((n + 4095) / 4096), 0) := by
  unfold check_Size.f
  rw [if_neg (by omega), if_neg (by omega), if_neg (by omega)]
  have e1 : wrap64 (wrap64 (n + 4096) - 1) = n + 4095 := by unfold wrap64; omega
  rw [e1, Int.tdiv_eq_ediv_of_nonneg (by omega)]
  have e2 : wrap64 ((n + 4095) / 4096) = (n + 4095) / 4096 := by unfold wrap64; omega
  rw [e2]
  have e3 : wrap64 ((n + 4095) / 4096 * 4096) = 4096 * ((n + 4095) / 4096) := by unfold wrap64; omega
  rw [e3]

theorem awake_true : samaralaw09_awake.f = some true := by
  unfold samaralaw09_awake.f
  rw [size_mid 1 (by omega) (by omega)]
  rfl

theorem size_tells (n : Int) : ∃ s e, check_Size.f n = some (s, e) ∧ ((e = 0 ∧ 0 < n ∧ n ≤ 2031616 ∧ s = 4096 * ((n + 4095) / 4096)) ∨ (s = 0 ∧ (e = 3 ∨ e = 4) ∧ ¬ (0 < n ∧ n ≤ 2031616))) := by
  by_cases h : 0 < n ∧ n ≤ 2031616
  · exact ⟨_, _, size_mid n h.1 h.2, .inl ⟨rfl, h.1, h.2, rfl⟩⟩
  · unfold check_Size.f
    by_cases a : n = 0
    · exact ⟨0, 3, by rw [if_pos a], .inr ⟨rfl, .inl rfl, h⟩⟩
    · by_cases b : n < 0
      · exact ⟨0, 4, by rw [if_neg a, if_pos b], .inr ⟨rfl, .inr rfl, h⟩⟩
      · exact ⟨0, 4, by rw [if_neg a, if_neg b, if_pos (by omega)], .inr ⟨rfl, .inr rfl, h⟩⟩

theorem range_tells (a n : Int) (ha : -9223372036854775808 ≤ a ∧ a ≤ 9223372036854775807) : ∃ lo hi e, check_Range.f a n = some (lo, hi, e) ∧
    ((e = 0 ∧ lo = a ∧ hi = a + 4096 * ((n + 4095) / 4096) ∧ a % 4096 = 0 ∧ 65536 ≤ a ∧ hi ≤ 2097152 ∧ 0 < n ∧ n ≤ 2031616) ∨ (e ≠ 0 ∧ lo = 0 ∧ hi = 0)) := by
  unfold check_Range.f
  by_cases c : Int.tmod a 4096 = 0
  · rw [if_pos c]
    obtain ⟨s, e, hs, h⟩ := size_tells n
    rw [hs]
    simp only [Option.bind_some]
    have hm : a % 4096 = 0 := by
      have := Int.dvd_of_tmod_eq_zero c
      omega
    rcases h with ⟨rfl, h0, h1, rfl⟩ | ⟨rfl, he, h⟩
    · rw [if_pos rfl]
      have ew : wrap64 (2097152 - 4096 * ((n + 4095) / 4096)) = 2097152 - 4096 * ((n + 4095) / 4096) := by unfold wrap64; omega
      rw [ew]
      by_cases b1 : a < 65536
      · exact ⟨0, 0, 4, by rw [if_pos b1], .inr ⟨by omega, rfl, rfl⟩⟩
      · by_cases b2 : a > 2097152 - 4096 * ((n + 4095) / 4096)
        · exact ⟨0, 0, 4, by rw [if_neg b1, if_pos b2], .inr ⟨by omega, rfl, rfl⟩⟩
        · have e2 : wrap64 (a + 4096 * ((n + 4095) / 4096)) = a + 4096 * ((n + 4095) / 4096) := by unfold wrap64; omega
          exact ⟨a, a + 4096 * ((n + 4095) / 4096), 0, by rw [if_neg b1, if_neg b2, e2], .inl ⟨rfl, rfl, rfl, hm, by omega, by omega, h0, h1⟩⟩
    · rw [if_neg (by omega)]
      exact ⟨0, 0, e, rfl, .inr ⟨by omega, rfl, rfl⟩⟩
  · exact ⟨0, 0, 2, by rw [if_neg c], .inr ⟨by omega, rfl, rfl⟩⟩

theorem CheckCovers : samaralaw09_CheckCovers.Pure := by
  intro a n wa wn
  have ba := bounds_i64 wa
  obtain ⟨lo, hi, e, hr, h⟩ := range_tells a n ba
  unfold samaralaw09_CheckCovers.f
  rw [hr, awake_true]
  simp only [Option.bind_some, if_true]
  rcases h with ⟨rfl, rfl, rfl, h1, h2, h3, h4, h5⟩ | ⟨he, rfl, rfl⟩
  · have t1 : Int.tmod lo 4096 = 0 := Int.tmod_eq_zero_of_dvd (by omega)
    have t2 : Int.tmod (lo + 4096 * ((n + 4095) / 4096)) 4096 = 0 := Int.tmod_eq_zero_of_dvd (by omega)
    have e1 : wrap64 (lo + 4096 * ((n + 4095) / 4096) - lo) = 4096 * ((n + 4095) / 4096) := by unfold wrap64; omega
    have e2 : wrap64 (4096 * ((n + 4095) / 4096) - n) = 4096 * ((n + 4095) / 4096) - n := by unfold wrap64; omega
    rw [if_pos rfl, if_pos rfl, if_pos t1, if_pos t2, if_pos h2, if_pos h3, e1, if_pos (by omega), e2]
    congr 1
    exact decide_eq_true (by omega)
  · rw [if_neg he]
    simp

end Go.Proofs.Ytjlgeoaomegbmaa.Pure
