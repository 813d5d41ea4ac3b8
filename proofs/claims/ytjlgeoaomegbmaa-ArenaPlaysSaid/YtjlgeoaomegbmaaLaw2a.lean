/- Contracts of functions (printed by gen.py of this work): what each hands back; condition: as its 'hside' says. -/
import Derived.Test.YtjlgeoaomegbmaaAutoX
namespace Go.Proofs.Ytjlgeoaomegbmaa.Eng
open Go Go.RowKit
set_option linter.unusedVariables false
set_option linter.unusedSimpArgs false

theorem b_awake2 : Bodied Try.prog 37 := bodied Try.func37 rfl (by decide)
def r_awake2  : SV := .c (.v (.bool (true)))
def F_awake2 (κ : Kp) : List SV → Heap → Option (Prop × SV) := fun args _ => match args with
  | [] => some (κ _ (True), .c (.v (.bool (κ _ (true)))))
  | _ => none
set_option maxRecDepth 100000 in
set_option maxHeartbeats 4000000 in
theorem k_awake2  (w : World) (hside : True) : Calls Try.prog 37 #[] w fun e w' => e = .returned (r_awake2 ).den ∧ Below w.heap.size w w' := by
  obtain ⟨κ, hκ⟩ : ∃ κ : Kp, κ = kid := ⟨_, rfl⟩
  refine pureE FTok [e_newP hκ, e_slotsP hκ, e_bornP hκ, e_rightP hκ] mixed [] Try.func37 rfl (by kernel_rfl) _ [] _ w 19 rfl [.tmp 0] rfl (by simp) (by simp [SV.den, C.den]) hκ ?_
  cbv
  repeat' (first | refine And.intro ?_ ?_ | (intro _; cbv) | (refine tst_mk (fun h => ?_) (fun h => ?_) <;> cbv) | (refine LookX.auto hκ ?_; cbv) | (refine LookX.autoGV hκ ?_; cbv))
  all_goals subst hκ
  all_goals (try delta kid at *)
  all_goals (try (exact ⟨trivial⟩))
  all_goals (try (exact ⟨rfl⟩))
  all_goals (try (exact ⟨⟨rfl, rfl, rfl, rfl⟩⟩))
  all_goals (try (exact ⟨⟨rfl, rfl, rfl, rfl, rfl, rfl, rfl⟩⟩))
  all_goals (try (exact ⟨by rw [bornL_len]; decide⟩))
  all_goals (try (exact ⟨by decide⟩))
  all_goals (try (exact ⟨by decide +kernel⟩))
  all_goals (refine ⟨?_⟩)
  all_goals (first | rfl | exact absurd h (by decide +kernel))
def e_awake2 {κ : Kp} (hκ : κ = kid) : ESpec Try.prog := pureES b_awake2 F_awake2 hκ fun args H s v w0 M w H' hF hs _ _ => by
  unfold F_awake2 at hF
  split at hF
  · skip
    injection hF with hF
    injection hF with h1 h2
    subst h1 h2
    exact k_awake2  w hs
  · cases hF

theorem b_cellsL : Bodied Try.prog 12 := bodied Try.func12 rfl (by decide)
def r_cellsL (z : Int × Int) (y : Int × Int) : SV := .c (.v (.bool (true)))
def F_cellsL (κ : Kp) : List SV → Heap → Option (Prop × SV) := fun args _ => match args with
  | [.agg [.v (.int .i64 z1), .v (.int .i64 z2)], .agg [.v (.int .i64 y1), .v (.int .i64 y2)]] => some (κ _ (True), .c (.v (.bool (κ _ (true)))))
  | _ => none
set_option maxRecDepth 100000 in
set_option maxHeartbeats 4000000 in
theorem k_cellsL (z1 : Int) (z2 : Int) (y1 : Int) (y2 : Int) (w : World) (hside : True) : Calls Try.prog 12 #[(SV.agg [.v (.int .i64 z1), .v (.int .i64 z2)]).den, (SV.agg [.v (.int .i64 y1), .v (.int .i64 y2)]).den] w fun e w' => e = .returned (r_cellsL (z1, z2) (y1, y2)).den ∧ Below w.heap.size w w' := by
  obtain ⟨κ, hκ⟩ : ∃ κ : Kp, κ = kid := ⟨_, rfl⟩
  refine pureE FTok [e_awake2 hκ, e_newP hκ, e_newR hκ, e_slotsP hκ, e_cellP hκ, e_cellR hκ, e_slotP hκ, e_slotR hκ] mixed [(1, [[], [], [0, 1], [0, 1], [0, 1, 2, 3], [0, 1, 2, 3], [0, 1, 2, 3, 4, 5], [0, 1, 2, 3, 4, 5], [2, 3, 4, 5, 6, 7], [4, 5, 6, 7], [6, 7], []]), (5, [[], [], [0, 1], [0, 1], [0, 1], [0, 1], [0, 1], [], [], [], [9], [9, 10], [], [9, 10, 11, 12], [9, 10, 11, 12, 13], [9, 10, 11, 12, 13, 14], [], [], [], [], [], [], [20, 21], [], [], [], []])] Try.func12 rfl (by kernel_rfl) _ [(0, .agg [.v (.int .i64 z1), .v (.int .i64 z2)]), (1, .agg [.v (.int .i64 y1), .v (.int .i64 y2)])] _ w 53 rfl [.tmp 4] rfl (by simp) (by simp [SV.den, C.den]) hκ ?_
  cbv
  repeat' (first | refine And.intro ?_ ?_ | (intro _; cbv) | (refine tst_mk (fun h => ?_) (fun h => ?_) <;> cbv) | (refine LookX.auto hκ ?_; cbv) | (refine LookX.autoGV hκ ?_; cbv))
  all_goals subst hκ
  all_goals (try delta kid at *)
  all_goals (try (exact ⟨trivial⟩))
  all_goals (try (exact ⟨rfl⟩))
  all_goals (try (exact ⟨⟨rfl, rfl, rfl, rfl⟩⟩))
  all_goals (try (exact ⟨⟨rfl, rfl, rfl, rfl, rfl, rfl, rfl⟩⟩))
  all_goals (try (exact ⟨by decide⟩))
  all_goals (try (exact ⟨⟨rep_len _, by rw [rep_len]; exact newN_le _⟩⟩))
  all_goals (try (exact ⟨⟨rep_len _, rep_len _, by rw [rep_len]; exact newN_le _⟩⟩))
  all_goals (refine ⟨?_⟩)
  all_goals (try simp only [newFR_eq, cells_eq, (slotP_eq _).1, rep_len] at *)
  all_goals (try (exact absurd h (by decide)))
  all_goals (simp_all [r_cellsL, SV.den, C.den])

def e_cellsL {κ : Kp} (hκ : κ = kid) : ESpec Try.prog := pureES b_cellsL F_cellsL hκ fun args H s v w0 M w H' hF hs _ _ => by
  unfold F_cellsL at hF
  split at hF
  · rename_i z1 z2 y1 y2
    injection hF with hF
    injection hF with h1 h2
    subst h1 h2
    exact k_cellsL z1 z2 y1 y2 w hs
  · cases hF

theorem b_apartL : Bodied Try.prog 13 := bodied Try.func13 rfl (by decide)
def r_apartL (z : Int × Int) (y : Int × Int) : SV := .c (.v (.bool (true)))
def F_apartL (κ : Kp) : List SV → Heap → Option (Prop × SV) := fun args _ => match args with
  | [.agg [.v (.int .i64 z1), .v (.int .i64 z2)], .agg [.v (.int .i64 y1), .v (.int .i64 y2)]] => some (κ _ (True), .c (.v (.bool (κ _ (true)))))
  | _ => none
set_option maxRecDepth 100000 in
set_option maxHeartbeats 4000000 in
theorem k_apartL (z1 : Int) (z2 : Int) (y1 : Int) (y2 : Int) (w : World) (hside : True) : Calls Try.prog 13 #[(SV.agg [.v (.int .i64 z1), .v (.int .i64 z2)]).den, (SV.agg [.v (.int .i64 y1), .v (.int .i64 y2)]).den] w fun e w' => e = .returned (r_apartL (z1, z2) (y1, y2)).den ∧ Below w.heap.size w w' := by
  obtain ⟨κ, hκ⟩ : ∃ κ : Kp, κ = kid := ⟨_, rfl⟩
  refine pureE FTok [e_newP hκ, e_cellP hκ, e_awake2 hκ, e_slotP hκ] mixed [(1, [[], [], [0, 1], [0, 1], [0, 1, 2, 3], [0, 1, 2, 3], [0, 1, 2, 3, 4, 5], [0, 1, 2, 3, 4, 5], [2, 3, 4, 5, 6, 7], [4, 5, 6, 7], [6, 7], []])] Try.func13 rfl (by kernel_rfl) _ [(0, .agg [.v (.int .i64 z1), .v (.int .i64 z2)]), (1, .agg [.v (.int .i64 y1), .v (.int .i64 y2)])] _ w 62 rfl [.tmp 4] rfl (by simp) (by simp [SV.den, C.den]) hκ ?_
  cbv
  repeat' (first | refine And.intro ?_ ?_ | (intro _; cbv) | (refine tst_mk (fun h => ?_) (fun h => ?_) <;> cbv) | (refine LookX.auto hκ ?_; cbv) | (refine LookX.autoGV hκ ?_; cbv))
  all_goals subst hκ
  all_goals (try delta kid at *)
  all_goals (try (exact ⟨trivial⟩))
  all_goals (try (exact ⟨rfl⟩))
  all_goals (try (exact ⟨⟨rfl, rfl, rfl, rfl⟩⟩))
  all_goals (try (exact ⟨⟨rfl, rfl, rfl, rfl, rfl, rfl, rfl⟩⟩))
  all_goals (try (exact ⟨by decide⟩))
  all_goals (try (exact ⟨⟨rep_len _, by rw [rep_len]; exact newN_le _⟩⟩))
  all_goals (refine ⟨?_⟩)
  all_goals (try rfl)
  all_goals (try (exact absurd h (by decide)))
  all_goals (have key := apart_key (l := List.replicate (newN 50) st0) (a := z1) (b := z2) (v := y1) (w := y2) (by rw [rep_len]; decide) (of_decide_eq_false ‹decide (cellP 100 (List.replicate (newN 50) st0) z1 y1 < 0) = false›) (of_decide_eq_false ‹decide (cellP 100 (List.replicate (newN 50) st0) z2 y2 < 0) = false›))
  all_goals (simp only [show newF 100 = 100 by decide] at *)
  all_goals (obtain ⟨k1, k2, k3⟩ := key)
  all_goals (rw [decide_eq_true k1] at *)
  all_goals (simp_all [r_apartL, SV.den, C.den])

def e_apartL {κ : Kp} (hκ : κ = kid) : ESpec Try.prog := pureES b_apartL F_apartL hκ fun args H s v w0 M w H' hF hs _ _ => by
  unfold F_apartL at hF
  split at hF
  · rename_i z1 z2 y1 y2
    injection hF with hF
    injection hF with h1 h2
    subst h1 h2
    exact k_apartL z1 z2 y1 y2 w hs
  · cases hF

end Go.Proofs.Ytjlgeoaomegbmaa.Eng
