/- Contracts of functions (printed by gen.py of this work): what each hands back; condition: as its 'hside' says. -/
import Derived.Test.YtjlgeoaomegbmaaAreaB
import Derived.Test.YtjlgeoaomegbmaaAreaC
import Derived.Test.YtjlgeoaomegbmaaArPure
namespace Go.Proofs.Ytjlgeoaomegbmaa.Eng
open Go Go.RowKit
set_option linter.unusedVariables false
set_option linter.unusedSimpArgs false

theorem b_awake6 : Bodied Try.prog 21 := bodied Try.func21 rfl (by decide)
def r_awake6  : SV := .c (.v (.bool (true)))
def F_awake6 (κ : Kp) : List SV → Heap → Option (Prop × SV) := fun args _ => match args with
  | [] => some (κ _ (True), .c (.v (.bool (κ _ (true)))))
  | _ => none
set_option maxRecDepth 100000 in
theorem k_awake6  (w : World) (hside : True) : Calls Try.prog 21 #[] w fun e w' => e = .returned (r_awake6 ).den ∧ Below w.heap.size w w' := by
  obtain ⟨κ, hκ⟩ : ∃ κ : Kp, κ = kid := ⟨_, rfl⟩
  refine pureE FTok [e_formed hκ, e_may hκ] mixed [] Try.func21 rfl (by kernel_rfl) _ [] _ w 7 rfl [.tmp 0] rfl (by simp) (by simp [SV.den, C.den]) hκ ?_
  cbv
  repeat' (first | refine And.intro ?_ ?_ | (intro _; cbv) | (refine tst_mk (fun h => ?_) (fun h => ?_) <;> cbv))
  all_goals subst hκ
  all_goals (try delta kid at *)
  all_goals (try simp only [kid] at *)
  all_goals (refine ⟨?_⟩)
  all_goals simp_all [r_awake6, SV.den, C.den, aw1, aw2]
def e_awake6 {κ : Kp} (hκ : κ = kid) : ESpec Try.prog := pureES b_awake6 F_awake6 hκ fun args H s v w0 M w H' hF hs _ _ => by
  unfold F_awake6 at hF
  split at hF
  · skip
    injection hF with hF
    injection hF with h1 h2
    subst h1 h2
    exact k_awake6  w hs
  · cases hF

theorem b_back : Bodied Try.prog 17 := bodied Try.func17 rfl (by decide)
def r_back (a : Ar) (at_ : Int) : SV := .c (.v (.bool (true)))
def F_back (κ : Kp) : List SV → Heap → Option (Prop × SV) := fun args _ => match args with
  | [.agg [.v (.int .i64 a1), .v (.int .i64 a2), .v (.int .i64 a3), .v (.bool a4), .v (.int .i64 a5), .v (.int .i64 a6)], .c (.v (.int .i64 at_))] => some (κ _ (In64 at_), .c (.v (.bool (κ _ (true)))))
  | _ => none
set_option maxRecDepth 100000 in
theorem k_back (a1 : Int) (a2 : Int) (a3 : Int) (a4 : Bool) (a5 : Int) (a6 : Int) (at_ : Int) (w : World) (hside : In64 at_) : Calls Try.prog 17 #[(SV.agg [.v (.int .i64 a1), .v (.int .i64 a2), .v (.int .i64 a3), .v (.bool a4), .v (.int .i64 a5), .v (.int .i64 a6)]).den, (SV.c (.v (.int .i64 at_))).den] w fun e w' => e = .returned (r_back (⟨a1, a2, a3, a4, a5, a6⟩ : Ar) at_).den ∧ Below w.heap.size w w' := by
  obtain ⟨κ, hκ⟩ : ∃ κ : Kp, κ = kid := ⟨_, rfl⟩
  refine pureE FTok [e_awake6 hκ, e_formed hκ, e_part hκ, e_join hκ, e_goes hκ] mixed [] Try.func17 rfl (by kernel_rfl) _ [(0, .agg [.v (.int .i64 a1), .v (.int .i64 a2), .v (.int .i64 a3), .v (.bool a4), .v (.int .i64 a5), .v (.int .i64 a6)]), (1, .c (.v (.int .i64 at_)))] _ w 88 rfl [.tmp 4] rfl (by simp) (by simp [SV.den, C.den]) hκ ?_
  cbv
  repeat' (first | refine And.intro ?_ ?_ | (intro _; cbv) | (refine tst_mk (fun h => ?_) (fun h => ?_) <;> cbv))
  all_goals subst hκ
  all_goals (try delta kid at *)
  all_goals (try simp only [kid] at *)
  all_goals (try (refine ⟨?_⟩))
  all_goals (try (simp_all [r_back, SV.den, C.den]; done))
  all_goals (have key := back_key (a := ⟨a1, a2, a3, a4, a5, a6⟩) (at_ := at_))
  all_goals (simp_all [r_back, SV.den, C.den])
def e_back {κ : Kp} (hκ : κ = kid) : ESpec Try.prog := pureES b_back F_back hκ fun args H s v w0 M w H' hF hs _ _ => by
  unfold F_back at hF
  split at hF
  · rename_i a1 a2 a3 a4 a5 a6 at_
    injection hF with hF
    injection hF with h1 h2
    subst h1 h2
    exact k_back a1 a2 a3 a4 a5 a6 at_ w hs
  · cases hF

end Go.Proofs.Ytjlgeoaomegbmaa.Eng
