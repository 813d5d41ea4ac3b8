/- Contracts of functions (printed by gen.py of this work): what each hands back; condition: as its 'hside' says. -/
import Derived.Test.YtjlgeoaomegbmaaLaw6a
import Derived.Test.YtjlgeoaomegbmaaNest6
namespace Go.Proofs.Ytjlgeoaomegbmaa.Eng
open Go Go.RowKit
set_option linter.unusedVariables false
set_option linter.unusedSimpArgs false

theorem b_nestL : Bodied Try.prog 14 := bodied Try.func14 rfl (by decide)
def r_nestL (a : Ar) (z : Int × Int × Int × Int) : SV := .c (.v (.bool (true)))
def F_nestL (κ : Kp) : List SV → Heap → Option (Prop × SV) := fun args _ => match args with
  | [.agg [.v (.int .i64 a1), .v (.int .i64 a2), .v (.int .i64 a3), .v (.bool a4), .v (.int .i64 a5), .v (.int .i64 a6)], .agg [.v (.int .u16 z1), .v (.int .u16 z2), .v (.int .u16 z3), .v (.int .u16 z4)]] => some (κ _ ((0 ≤ z1 ∧ z1 ≤ 65535) ∧ (0 ≤ z2 ∧ z2 ≤ 65535) ∧ (0 ≤ z3 ∧ z3 ≤ 65535) ∧ (0 ≤ z4 ∧ z4 ≤ 65535)), .c (.v (.bool (κ _ (true)))))
  | _ => none
set_option maxRecDepth 100000 in
theorem k_nestL (a1 : Int) (a2 : Int) (a3 : Int) (a4 : Bool) (a5 : Int) (a6 : Int) (z1 : Int) (z2 : Int) (z3 : Int) (z4 : Int) (w : World) (hside : (0 ≤ z1 ∧ z1 ≤ 65535) ∧ (0 ≤ z2 ∧ z2 ≤ 65535) ∧ (0 ≤ z3 ∧ z3 ≤ 65535) ∧ (0 ≤ z4 ∧ z4 ≤ 65535)) : Calls Try.prog 14 #[(SV.agg [.v (.int .i64 a1), .v (.int .i64 a2), .v (.int .i64 a3), .v (.bool a4), .v (.int .i64 a5), .v (.int .i64 a6)]).den, (SV.agg [.v (.int .u16 z1), .v (.int .u16 z2), .v (.int .u16 z3), .v (.int .u16 z4)]).den] w fun e w' => e = .returned (r_nestL (⟨a1, a2, a3, a4, a5, a6⟩ : Ar) (z1, z2, z3, z4)).den ∧ Below w.heap.size w w' := by
  obtain ⟨κ, hκ⟩ : ∃ κ : Kp, κ = kid := ⟨_, rfl⟩
  refine pureE FTok [e_awake6 hκ, e_formed hκ, e_part hκ] mixed [(4, [[], [0], [0], [0], [0], [0], [], [0, 1, 2, 3, 4, 5, 6], [0, 1, 2, 3, 4, 5, 6, 7], [0, 1, 2, 3, 4, 5, 6, 7], [0, 1, 2, 3, 4, 5, 6, 7], [0, 1, 2, 3, 4, 5, 6, 7], [0, 1, 2, 3, 4, 5, 6, 7], [0, 1, 2, 3, 4, 5, 6], [0, 1, 2, 3, 4, 5, 6, 7, 8, 9, 10, 11, 12, 13], [0, 1, 2, 3, 4, 5, 6, 7, 8, 9, 10, 11, 12, 13, 14], [0, 1, 2, 3, 4, 5, 6, 7, 8, 9, 10, 11, 12, 13, 14], [0, 1, 2, 3, 4, 5, 6, 7, 8, 9, 10, 11, 12, 13, 14], [0, 1, 2, 3, 4, 5, 6, 7, 8, 9, 10, 11, 12, 13, 14], [0, 1, 2, 3, 4, 5, 6, 7, 8, 9, 10, 11, 12, 13, 14], [0, 1, 2, 3, 4, 5, 6, 7, 8, 9, 10, 11, 12, 13], [0, 1, 2, 3, 4, 5, 6, 7, 8, 9, 10, 11, 12, 13, 14, 15, 16, 17, 18, 19, 20], [0, 1, 2, 3, 4, 5, 6, 7, 8, 9, 10, 11, 12, 13, 14, 15, 16, 17, 18, 19, 20, 21], [0, 1, 2, 3, 4, 5, 6, 7, 8, 9, 10, 11, 12, 13, 14, 15, 16, 17, 18, 19, 20, 21], [0, 1, 2, 3, 4, 5, 6, 7, 8, 9, 10, 11, 12, 13, 14, 15, 16, 17, 18, 19, 20, 21], [0, 1, 2, 3, 4, 5, 6, 7, 8, 9, 10, 11, 12, 13, 14, 15, 16, 17, 18, 19, 20, 21], [0, 1, 2, 3, 4, 5, 6, 7, 8, 9, 10, 11, 12, 13, 14, 15, 16, 17, 18, 19, 20, 21], [0, 1, 2, 3, 4, 5, 6, 7, 8, 9, 10, 11, 12, 13, 14, 15, 16, 17, 18, 19, 20], [7, 8, 9, 10, 11, 12, 13, 14, 15, 16, 17, 18, 19, 20, 21, 22, 23, 24, 25, 26, 27], [14, 15, 16, 17, 18, 19, 20, 21, 22, 23, 24, 25, 26, 27], [21, 22, 23, 24, 25, 26, 27], []])] Try.func14 rfl (by kernel_rfl) _ [(0, .agg [.v (.int .i64 a1), .v (.int .i64 a2), .v (.int .i64 a3), .v (.bool a4), .v (.int .i64 a5), .v (.int .i64 a6)]), (1, .agg [.v (.int .u16 z1), .v (.int .u16 z2), .v (.int .u16 z3), .v (.int .u16 z4)])] _ w 89 rfl [.tmp 4] rfl (by simp) (by simp [SV.den, C.den]) hκ ?_
  cbv
  repeat' (first | refine And.intro ?_ ?_ | (intro _; cbv) | (refine tst_mk (fun h => ?_) (fun h => ?_) <;> cbv))
  all_goals subst hκ
  all_goals (try delta kid at *)
  all_goals (try (exact ⟨trivial⟩))
  all_goals (try (exact ⟨by decide⟩))
  all_goals (try (exact trivial))
  all_goals (try (refine ⟨?_⟩))
  all_goals (try simp only [partA_eta] at *)
  all_goals (try (simp_all [-Ar.eta, -At.eta, r_nestL, SV.den, C.den]; done))
  all_goals (have hk := nest_all (a := ⟨a1, a2, a3, a4, a5, a6⟩) ‹_› hside.1 hside.2.1 hside.2.2.1 hside.2.2.2)
  all_goals (have hk0 := hk)
  all_goals (simp only [nv, w64, maxI, minI, GT.gt, eqA] at hk)
  all_goals (try (simp_all [-Ar.eta, -At.eta, r_nestL, SV.den, C.den]; done))
  all_goals (clear hk; first | exact congrArg Value.bool (hk0.2 ‹_›).2 | exact ((Bool.eq_false_iff.1 h) (beq_iff_eq.2 (hk0.2 ‹_›).1)).elim | exact absurd ((hk0.1 ‹_›).symm.trans (‹_› : _ = true)) (by decide))
def e_nestL {κ : Kp} (hκ : κ = kid) : ESpec Try.prog := pureES b_nestL F_nestL hκ fun args H s v w0 M w H' hF hs _ _ => by
  unfold F_nestL at hF
  split at hF
  · rename_i a1 a2 a3 a4 a5 a6 z1 z2 z3 z4
    injection hF with hF
    injection hF with h1 h2
    subst h1 h2
    exact k_nestL a1 a2 a3 a4 a5 a6 z1 z2 z3 z4 w hs
  · cases hF

end Go.Proofs.Ytjlgeoaomegbmaa.Eng
