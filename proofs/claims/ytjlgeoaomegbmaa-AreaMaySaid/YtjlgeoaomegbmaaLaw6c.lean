/- Contracts of functions (printed by gen.py of this work): what each hands back; condition: as its 'hside' says. -/
import Derived.Test.YtjlgeoaomegbmaaLaw6a
import Derived.Test.YtjlgeoaomegbmaaLoop6
namespace Go.Proofs.Ytjlgeoaomegbmaa.Eng
open Go Go.RowKit
set_option linter.unusedVariables false
set_option linter.unusedSimpArgs false

theorem b_mayL : Bodied Try.prog 4 := bodied Try.func4 rfl (by decide)
def r_mayL (a : Ar) (k : Int) : SV := .c (.v (.bool (true)))
def F_mayL (κ : Kp) : List SV → Heap → Option (Prop × SV) := fun args _ => match args with
  | [.agg [.v (.int .i64 a1), .v (.int .i64 a2), .v (.int .i64 a3), .v (.bool a4), .v (.int .i64 a5), .v (.int .i64 a6)], .c (.v (.int .i64 k))] => some (κ _ (True), .c (.v (.bool (κ _ (true)))))
  | _ => none
set_option maxRecDepth 100000 in
theorem k_mayL (a1 : Int) (a2 : Int) (a3 : Int) (a4 : Bool) (a5 : Int) (a6 : Int) (k : Int) (w : World) (hside : True) : Calls Try.prog 4 #[(SV.agg [.v (.int .i64 a1), .v (.int .i64 a2), .v (.int .i64 a3), .v (.bool a4), .v (.int .i64 a5), .v (.int .i64 a6)]).den, (SV.c (.v (.int .i64 k))).den] w fun e w' => e = .returned (r_mayL (⟨a1, a2, a3, a4, a5, a6⟩ : Ar) k).den ∧ Below w.heap.size w w' := by
  obtain ⟨κ, hκ⟩ : ∃ κ : Kp, κ = kid := ⟨_, rfl⟩
  refine pureE FTok [e_awake6 hκ, e_may hκ] mixed [] Try.func4 rfl (by kernel_rfl) _ [(0, .agg [.v (.int .i64 a1), .v (.int .i64 a2), .v (.int .i64 a3), .v (.bool a4), .v (.int .i64 a5), .v (.int .i64 a6)]), (1, .c (.v (.int .i64 k)))] _ w 37 rfl [.tmp 4] rfl (by simp) (by simp [SV.den, C.den]) hκ ?_
  cbv
  repeat' (first | refine And.intro ?_ ?_ | (intro _; cbv) | (refine tst_mk (fun h => ?_) (fun h => ?_) <;> cbv))
  all_goals refine loopK FTok [e_awake6 hκ, e_may hκ] mixed [1, 2] [2] (σ := Nat) (fun s => [(5, .c (.v (.bool (κ _ (wantM a3 k s))))), (6, .c (.v (.int .i64 (κ _ (bitM s)))))]) (fun _ => []) (fun s => 3 - s) 0 [2] ?_ (by decide) ?_ hκ ?_
  all_goals (try (intro s))
  all_goals cbv
  all_goals (repeat' (first | refine And.intro ?_ ?_ | (intro _; cbv) | (refine tst_mk (fun h => ?_) (fun h => ?_) <;> cbv)))
  all_goals (try (refine ⟨⟨s + 1, [2], (by subst hκ; delta kid at *; have := (want_step a3 k s (of_decide_eq_true ‹decide (bitM s ≤ 4) = true›)).2.2.2; omega), by decide, ?_, ?_⟩⟩ <;> cbv))

  all_goals subst hκ
  all_goals (try delta kid at *)
  all_goals (try (refine ⟨?_⟩))
  all_goals (try (decide))
  all_goals (try (simp_all [wantM, bitM, want0]; done))
  all_goals (try (show Value.bool false = Value.bool (decide (1 ≤ k) && decide (k ≤ 7)); rw [h]; rfl))
  all_goals (try (have hk := want_step a3 k s (of_decide_eq_true ‹decide (bitM s ≤ 4) = true›)
                  have hb : In64 (bitM s * 2) := (by unfold In64; have := of_decide_eq_true ‹decide (bitM s ≤ 4) = true›; have := (bit_pos s); omega)
                  have hw := w64_id hb
                  unfold w64 at hw
                  simp_all [wantB]; done))
  all_goals (try (have hk := want_end a3 k s (of_decide_eq_false ‹decide (bitM s ≤ 4) = false›); have hm := may_key ⟨a1, a2, a3, a4, a5, a6⟩ k; simp_all [r_mayL, SV.den, C.den]; done))
  all_goals trace_state
def e_mayL {κ : Kp} (hκ : κ = kid) : ESpec Try.prog := pureES b_mayL F_mayL hκ fun args H s v w0 M w H' hF hs _ _ => by
  unfold F_mayL at hF
  split at hF
  · rename_i a1 a2 a3 a4 a5 a6 k
    injection hF with hF
    injection hF with h1 h2
    subst h1 h2
    exact k_mayL a1 a2 a3 a4 a5 a6 k w hs
  · cases hF

end Go.Proofs.Ytjlgeoaomegbmaa.Eng
