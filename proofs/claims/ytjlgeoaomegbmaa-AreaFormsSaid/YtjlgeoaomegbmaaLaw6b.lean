/- Contracts of functions (printed by gen.py of this work): what each hands back; condition: as its 'hside' says. -/
import Derived.Test.YtjlgeoaomegbmaaLaw6a
import Derived.Test.YtjlgeoaomegbmaaAreaD
namespace Go.Proofs.Ytjlgeoaomegbmaa.Eng
open Go Go.RowKit
set_option linter.unusedVariables false
set_option linter.unusedSimpArgs false

theorem b_forms : Bodied Try.prog 10 := bodied Try.func10 rfl (by decide)
def r_forms (a : Ar) (x : Int) : SV := .c (.v (.bool (true)))
def F_forms (κ : Kp) : List SV → Heap → Option (Prop × SV) := fun args _ => match args with
  | [.agg [.v (.int .i64 a1), .v (.int .i64 a2), .v (.int .i64 a3), .v (.bool a4), .v (.int .i64 a5), .v (.int .i64 a6)], .c (.v (.int .i64 x))] => some (κ _ (In64 x), .c (.v (.bool (κ _ (true)))))
  | _ => none
set_option maxRecDepth 100000 in
theorem k_forms (a1 : Int) (a2 : Int) (a3 : Int) (a4 : Bool) (a5 : Int) (a6 : Int) (x : Int) (w : World) (hside : In64 x) : Calls Try.prog 10 #[(SV.agg [.v (.int .i64 a1), .v (.int .i64 a2), .v (.int .i64 a3), .v (.bool a4), .v (.int .i64 a5), .v (.int .i64 a6)]).den, (SV.c (.v (.int .i64 x))).den] w fun e w' => e = .returned (r_forms (⟨a1, a2, a3, a4, a5, a6⟩ : Ar) x).den ∧ Below w.heap.size w w' := by
  obtain ⟨κ, hκ⟩ : ∃ κ : Kp, κ = kid := ⟨_, rfl⟩
  refine pureE FTok [e_attr hκ, e_refF hκ, e_awake6 hκ, e_formed hκ, e_has hκ, e_refAttr hκ] mixed [] Try.func10 rfl (by kernel_rfl) _ [(0, .agg [.v (.int .i64 a1), .v (.int .i64 a2), .v (.int .i64 a3), .v (.bool a4), .v (.int .i64 a5), .v (.int .i64 a6)]), (1, .c (.v (.int .i64 x)))] _ w 67 rfl [.tmp 4] rfl (by simp) (by simp [SV.den, C.den]) hκ ?_
  cbv
  repeat' (first | refine And.intro ?_ ?_ | (intro _; cbv) | (refine tst_mk (fun h => ?_) (fun h => ?_) <;> cbv))
  all_goals subst hκ
  all_goals (try delta kid at *)
  all_goals (try (refine ⟨?_⟩))
  all_goals (try decide)
  all_goals (have key := forms_key (a := ⟨a1, a2, a3, a4, a5, a6⟩) (x := x))
  all_goals (have hd : hasA ⟨a1, a2, a3, a4, a5, a6⟩ x = (formed ⟨a1, a2, a3, a4, a5, a6⟩ && decide (x ≥ a1) && decide (x < a2)) := rfl)
  all_goals (have hn : hasA ⟨a1, a2, a3, a4, a5, a6⟩ x = false → attrA ⟨a1, a2, a3, a4, a5, a6⟩ x = noAt := fun h => (by unfold attrA; rw [h]; rfl))
  all_goals (simp only [refF_eq] at *)
  all_goals (try (simp_all [r_forms, SV.den, C.den, noAt, decide_eq_false_iff_not, Int.not_lt, Int.not_le]; done))
  all_goals (try (simp_all [r_forms, SV.den, C.den, noAt]; omega))
  all_goals trace_state
def e_forms {κ : Kp} (hκ : κ = kid) : ESpec Try.prog := pureES b_forms F_forms hκ fun args H s v w0 M w H' hF hs _ _ => by
  unfold F_forms at hF
  split at hF
  · rename_i a1 a2 a3 a4 a5 a6 x
    injection hF with hF
    injection hF with h1 h2
    subst h1 h2
    exact k_forms a1 a2 a3 a4 a5 a6 x w hs
  · cases hF

end Go.Proofs.Ytjlgeoaomegbmaa.Eng
