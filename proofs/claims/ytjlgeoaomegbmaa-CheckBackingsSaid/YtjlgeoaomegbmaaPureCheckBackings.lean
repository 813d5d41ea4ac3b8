/- CheckBackings: of all backings and offsets, with a size, the error is the reference's; no condition. -/
import Derived.Test.YtjlgeoaomegbmaaPCheckBackingsx1
import Derived.OpenShut
import Derived.Laws.Entries
namespace Go.Proofs.Ytjlgeoaomegbmaa.Pure
open Go.RowKit Go.Proofs.Ytjlgeoaomegbmaa.PCheckBackings Go.Proofs.YtjlgeoaomegbmaaW.PrintWords Go.Proofs.YtjlgeoaomegbmaaW.PrintLast

theorem size_mid (n : Int) (h0 : 0 < n) (h1 : n ≤ 2031616) : check_Size.f n = some (4096 * ((n + 4095) / 4096), 0) := by
  unfold check_Size.f
  rw [if_neg (by omega), if_neg (by omega), if_neg (by omega)]
  have e1 : wrap64 (wrap64 (n + 4096) - 1) = n + 4095 := by unfold wrap64; omega
  rw [e1, Int.tdiv_eq_ediv_of_nonneg (by omega)]
  have e2 : wrap64 ((n + 4095) / 4096) = (n + 4095) / 4096 := by unfold wrap64; omega
  rw [e2]
  have e3 : wrap64 ((n + 4095) / 4096 * 4096) = 4096 * ((n + 4095) / 4096) := by unfold wrap64; omega
  rw [e3]

theorem awake_true : samaralaw09_awake.f = some true := by
  unfold samaralaw09_awake.f
  rw [size_mid 1 (by omega) (by omega)]
  rfl

theorem size_tells (n : Int) : ∃ s e, check_Size.f n = some (s, e) ∧ ((e = 0 ∧ 0 < n ∧ n ≤ 2031616 ∧ s = 4096 * ((n + 4095) / 4096)) ∨ (s = 0 ∧ (e = 3 ∨ e = 4) ∧ ¬ (0 < n ∧ n ≤ 2031616))) := by
  by_cases h : 0 < n ∧ n ≤ 2031616
  · exact ⟨_, _, size_mid n h.1 h.2, .inl ⟨rfl, h.1, h.2, rfl⟩⟩
  · unfold check_Size.f
    by_cases a : n = 0
    · exact ⟨0, 3, by rw [if_pos a], .inr ⟨rfl, .inl rfl, h⟩⟩
    · by_cases b : n < 0
      · exact ⟨0, 4, by rw [if_neg a, if_pos b], .inr ⟨rfl, .inr rfl, h⟩⟩
      · exact ⟨0, 4, by rw [if_neg a, if_neg b, if_pos (by omega)], .inr ⟨rfl, .inr rfl, h⟩⟩

theorem backing_same (b off n : Int) (ho : -9223372036854775808 ≤ off ∧ off ≤ 9223372036854775807) (h0 : 0 < n) (h1 : n ≤ 2031616) : ∃ e, check_Backing.f 1 b off (4096 * ((n + 4095) / 4096)) = some e ∧ samararef09_Backing.f 1 b off (4096 * ((n + 4095) / 4096)) = some e := by
  have key : ∀ x : Bool, ∃ e, check_Backing.j0 1 off (4096 * ((n + 4095) / 4096)) x = some e ∧ samararef09_Backing.j0 1 off (4096 * ((n + 4095) / 4096)) x = some e := by
    intro x
    simp only [check_Backing.j0, samararef09_Backing.j0]
    cases x with
    | true => exact ⟨1, by simp, by simp⟩
    | false =>
      simp only [Bool.false_eq_true, if_false]
      by_cases c : Int.tmod off 4096 = 0
      · rw [if_pos c, if_pos c]
        by_cases c1 : off < 0
        · exact ⟨4, by rw [if_pos c1], by rw [if_pos c1]⟩
        · rw [if_neg c1, if_neg c1]
          have ew : wrap64 (1099511627776 - 4096 * ((n + 4095) / 4096)) = 1099511627776 - 4096 * ((n + 4095) / 4096) := by unfold wrap64; omega
          rw [ew]
          by_cases c2 : off > 1099511627776 - 4096 * ((n + 4095) / 4096)
          · refine ⟨4, by rw [if_pos c2], ?_⟩
            by_cases c3 : off > 1099511627776
            · rw [if_pos c3]
            · have e2 : wrap64 (off + 4096 * ((n + 4095) / 4096)) = off + 4096 * ((n + 4095) / 4096) := by unfold wrap64; omega
              rw [if_neg c3, e2, if_pos (by omega)]
          · have e2 : wrap64 (off + 4096 * ((n + 4095) / 4096)) = off + 4096 * ((n + 4095) / 4096) := by unfold wrap64; omega
            exact ⟨0, by rw [if_neg c2], by rw [if_neg (by omega), e2, if_neg (by omega)]⟩
      · exact ⟨2, by rw [if_neg c], by rw [if_neg c]⟩
  unfold check_Backing.f samararef09_Backing.f
  by_cases b0 : b < 0
  · rw [if_pos b0, if_pos b0]; exact key _
  · rw [if_neg b0, if_neg b0]
    by_cases b1 : b > 9
    · rw [if_pos b1, if_pos b1]; exact key _
    · rw [if_neg b1, if_neg b1]
      by_cases b2 : b = 0
      · rw [if_pos b2, if_pos b2]; exact key _
      · rw [if_neg b2, if_neg b2]; exact key _

theorem CheckBackings : samaralaw09_CheckBackings.Pure := by
  intro b off n wb wo wn
  have bo := bounds_i64 wo
  refine ⟨2, ?_⟩
  unfold samaralaw09_CheckBackings.f
  obtain ⟨s, e, hs, h⟩ := size_tells n
  rw [hs, awake_true]
  simp only [Option.bind_some, if_true]
  simp only [samaralaw09_CheckBackings.j0]
  rw [awake_true]
  rcases h with ⟨rfl, h0, h1, rfl⟩ | ⟨rfl, he, h⟩
  · obtain ⟨x, e1, e2⟩ := backing_same b off n bo h0 h1
    rw [e1, e2]
    simp
  · have : (e != 0) = true := by rcases he with rfl | rfl <;> rfl
    rw [this]
    simp

end Go.Proofs.Ytjlgeoaomegbmaa.Pure
