/- Contracts of functions (printed by gen.py of this work): what each hands back; condition: as its 'hside' says. -/
import Derived.Test.YtjlgeoaomegbmaaLaw2a
namespace Go.Proofs.Ytjlgeoaomegbmaa.Eng
open Go Go.RowKit
set_option linter.unusedVariables false
set_option linter.unusedSimpArgs false

theorem b_onceL_ : Bodied Try.prog 15 := bodied Try.func15 rfl (by decide)
def r_onceL_ (n0 : Int) (z : Int) : SV := .c (.v (.bool (true)))
def F_onceL_ (κ : Kp) : List SV → Heap → Option (Prop × SV) := fun args _ => match args with
  | [.c (.v (.int .u8 n0)), .c (.v (.int .u8 z))] => some (κ _ ((0 ≤ n0 ∧ n0 ≤ 255) ∧ (0 ≤ z ∧ z ≤ 255)), .c (.v (.bool (κ _ (true)))))
  | _ => none
set_option maxRecDepth 100000 in
set_option maxHeartbeats 4000000 in
theorem k_onceL_ (n0 : Int) (z : Int) (w : World) (hside : (0 ≤ n0 ∧ n0 ≤ 255) ∧ (0 ≤ z ∧ z ≤ 255)) : Calls Try.prog 15 #[(SV.c (.v (.int .u8 n0))).den, (SV.c (.v (.int .u8 z))).den] w fun e w' => e = .returned (r_onceL_ n0 z).den ∧ Below w.heap.size w w' := by
  obtain ⟨κ, hκ⟩ : ∃ κ : Kp, κ = kid := ⟨_, rfl⟩
  refine pureE FTok [e_awake2 hκ, e_newP hκ, e_bornP hκ, e_rightP hκ, e_slotP hκ, e_diedP hκ, e_liveP hκ, e_staleP hκ, e_doubleP hκ] mixed [] Try.func15 rfl (by kernel_rfl) _ [(0, .c (.v (.int .u8 n0))), (1, .c (.v (.int .u8 z)))] _ w 69 rfl [.tmp 4] rfl (by simp) (by simp [SV.den, C.den]) hκ ?_
  cbv
  repeat' (first | refine And.intro ?_ ?_ | (intro _; cbv) | (refine tst_mk (fun h => ?_) (fun h => ?_) <;> cbv) | (refine LookX.auto hκ ?_; cbv) | (refine LookX.autoGV hκ ?_; cbv))
  all_goals (try (rename_i b A; refine loopG FTok [e_awake2 hκ, e_newP hκ, e_bornP hκ, e_rightP hκ, e_slotP hκ, e_diedP hκ, e_liveP hκ, e_staleP hκ, e_doubleP hκ] mixed [0, 6] (σ := {i : Nat // i < 200 ∧ (i : Int) ≤ Int.tmod n0 200}) (fun s => [(5, .c (.loc 300000 b 0)), (7, .c (.v (.int .i64 (κ _ (onceH (w64 (1 + w64 (Int.tmod z 10))) s.1))))), (8, .c (.v (.int .i64 (κ _ ((s.1 : Nat) : Int)))))]) (fun s => [(300000, .blk b 80 [.v (.int .i64 (κ _ (newF 0))), .sl 300001 A (κ _ (newN 10)) (κ _ (newN 10)), .v (.bool false), .v (.bool false)]), (300001, .row A (κ _ (newN 10)) 84 2 (κ _ (newN 10)) (κ _ (encS (onceL (w64 (1 + w64 (Int.tmod z 10))) s.1)))), (nilId, .rd none 1 0 [])]) (fun s => 200 - s.1) ⟨0, ⟨by decide, once_n0 hside.1⟩⟩ [10, 100010, nilId] ?_ (by decide) ?_ hκ ?_))
  all_goals (try (rintro ⟨i, hi1, hi2⟩))
  all_goals (try cbv)
  all_goals (repeat' (first | refine And.intro ?_ ?_ | (intro _; cbv) | (refine tst_mk (fun h => ?_) (fun h => ?_) <;> cbv) | (refine LookX.auto hκ ?_; cbv)))

  all_goals subst hκ
  all_goals (try delta kid at *)
  all_goals (try dsimp only at *)
  all_goals (have hs := once_s hside.2)
  all_goals (generalize IntKind.i64.wrap (1 + IntKind.i64.wrap (Int.tmod z 10)) = s at *)
  all_goals (try (exact ⟨trivial⟩))
  all_goals (try (exact ⟨rfl⟩))
  all_goals (try (exact ⟨⟨rfl, rfl, rfl, rfl⟩⟩))
  all_goals (try (exact ⟨⟨rfl, rfl, rfl, rfl, rfl, rfl, rfl⟩⟩))
  all_goals (try (exact ⟨by decide⟩))
  all_goals (try (exact ⟨by simp only [bornL_len, diedL_len, once_len]; decide⟩))
  all_goals (try (show Value.int .i64 0 = Value.int .i64 (onceH s 0); rfl))
  all_goals (try (show encS (List.replicate (newN 10) st0) = encS (onceL s 0); rw [once_zero hs.1 hs.2]; rfl))
  all_goals (try rfl)
  all_goals (try (exact trivial))
  all_goals (try (have hw := once_w hside.1; rw [hw] at *))
  all_goals (try (have hi3 : (i : Int) < Int.tmod n0 200 := of_decide_eq_true ‹decide ((i : Int) < Int.tmod n0 200) = true›))
  all_goals (obtain ⟨k1, k2, k3, k4, k5, k6, k7, k8, k9⟩ := once_key hs.1 hs.2 hi1)
  all_goals (simp only [k1, k3, k4, k5, k6, k7, k8, k9, dead_out (once_dead s (i + 1)), once_len, bornL_len] at *)
  all_goals (try (refine ⟨?_⟩; simp_all [r_onceL_, SV.den, C.den]; done))
  all_goals (try (exact absurd (of_decide_eq_true h) (by omega)))
  have hi3 : (i : Int) < Int.tmod n0 200 := by rw [← once_w hside.1]; exact of_decide_eq_true ‹_›
  have e : w64 ((i : Int) + 1) = ((i + 1 : Nat) : Int) := by rw [w64_id (by unfold In64; omega)]; rfl
  exact ⟨⟨⟨i + 1, once_step hside.1 hi3⟩, [300000, 300001, nilId], (by show 200 - (i + 1) < 200 - i; omega), by decide, ⟨rfl, rfl, rfl, rfl, rfl, rfl, rfl, rfl, rfl, congrArg (Value.int .i64) e, trivial⟩, ⟨rfl, rfl, rfl⟩, ⟨rfl, rfl, rfl, rfl, rfl, rfl⟩, ⟨rfl, rfl, rfl, rfl⟩, trivial⟩⟩
def e_onceL_ {κ : Kp} (hκ : κ = kid) : ESpec Try.prog := pureES b_onceL_ F_onceL_ hκ fun args H s v w0 M w H' hF hs _ _ => by
  unfold F_onceL_ at hF
  split at hF
  · rename_i n0 z
    injection hF with hF
    injection hF with h1 h2
    subst h1 h2
    exact k_onceL_ n0 z w hs
  · cases hF

end Go.Proofs.Ytjlgeoaomegbmaa.Eng
