/- Contracts of functions (printed by gen.py of this work): what each hands back; condition: as its 'hside' says. -/
import Derived.Test.YtjlgeoaomegbmaaFacts
import Derived.Test.YtjlgeoaomegbmaaChecked
import Derived.Test.YtjlgeoaomegbmaaArena
namespace Go.Proofs.Ytjlgeoaomegbmaa.Eng
open Go Go.RowKit
set_option linter.unusedVariables false
set_option linter.unusedSimpArgs false

theorem b_slotP : Bodied Try.prog 43 := bodied Try.func43 rfl (by decide)
def r_slotP (h : Int) : SV := .c (.v (.int .i64 (slotP h)))
def F_slotP (κ : Kp) : List SV → Heap → Option (Prop × SV) := fun args _ => match args with
  | [.c (.v (.int .i64 h))] => some (κ _ (True), .c (.v (.int .i64 (κ _ (slotP h)))))
  | _ => none
set_option maxRecDepth 100000 in
theorem k_slotP (h : Int) (w : World) (hside : True) : Calls Try.prog 43 #[(SV.c (.v (.int .i64 h))).den] w fun e w' => e = .returned (r_slotP h).den ∧ Below w.heap.size w w' := by
  obtain ⟨κ, hκ⟩ : ∃ κ : Kp, κ = kid := ⟨_, rfl⟩
  refine pureE FTok [] mixed [] Try.func43 rfl (by kernel_rfl) _ [(0, .c (.v (.int .i64 h)))] _ w 7 rfl [.tmp 2] rfl (by simp) (by simp [SV.den, C.den]) hκ ?_
  cbv
  repeat' (first | refine And.intro ?_ ?_ | (intro _; cbv) | (refine tst_mk (fun h => ?_) (fun h => ?_) <;> cbv))
  all_goals subst hκ
  all_goals (try delta kid at *)
  all_goals (try (exact ⟨trivial⟩))
  all_goals (try (exact ⟨by decide⟩))
  all_goals (refine ⟨?_⟩)
  all_goals simp only [r_slotP, SV.den, C.den, slotP]
  all_goals (try simp only [*, if_true, if_false, Bool.false_eq_true])
  all_goals (try rfl)
def e_slotP {κ : Kp} (hκ : κ = kid) : ESpec Try.prog := pureES b_slotP F_slotP hκ fun args H s v w0 M w H' hF hs _ _ => by
  unfold F_slotP at hF
  split at hF
  · rename_i h
    injection hF with hF
    injection hF with h1 h2
    subst h1 h2
    exact k_slotP h w hs
  · cases hF

theorem b_slotR : Bodied Try.prog 44 := bodied Try.func44 rfl (by decide)
def r_slotR (h : Int) : SV := .c (.v (.int .i64 (slotR h)))
def F_slotR (κ : Kp) : List SV → Heap → Option (Prop × SV) := fun args _ => match args with
  | [.c (.v (.int .i64 h))] => some (κ _ (True), .c (.v (.int .i64 (κ _ (slotR h)))))
  | _ => none
set_option maxRecDepth 100000 in
theorem k_slotR (h : Int) (w : World) (hside : True) : Calls Try.prog 44 #[(SV.c (.v (.int .i64 h))).den] w fun e w' => e = .returned (r_slotR h).den ∧ Below w.heap.size w w' := by
  obtain ⟨κ, hκ⟩ : ∃ κ : Kp, κ = kid := ⟨_, rfl⟩
  refine pureE FTok [] mixed [] Try.func44 rfl (by kernel_rfl) _ [(0, .c (.v (.int .i64 h)))] _ w 7 rfl [.tmp 2] rfl (by simp) (by simp [SV.den, C.den]) hκ ?_
  cbv
  repeat' (first | refine And.intro ?_ ?_ | (intro _; cbv) | (refine tst_mk (fun h => ?_) (fun h => ?_) <;> cbv))
  all_goals subst hκ
  all_goals (try delta kid at *)
  all_goals (try (exact ⟨trivial⟩))
  all_goals (try (exact ⟨by decide⟩))
  all_goals (refine ⟨?_⟩)
  all_goals simp only [r_slotR, SV.den, C.den, slotR]
  all_goals (try simp only [*, if_true, if_false, Bool.false_eq_true])
  all_goals (try rfl)
def e_slotR {κ : Kp} (hκ : κ = kid) : ESpec Try.prog := pureES b_slotR F_slotR hκ fun args H s v w0 M w H' hF hs _ _ => by
  unfold F_slotR at hF
  split at hF
  · rename_i h
    injection hF with hF
    injection hF with h1 h2
    subst h1 h2
    exact k_slotR h w hs
  · cases hF

end Go.Proofs.Ytjlgeoaomegbmaa.Eng
