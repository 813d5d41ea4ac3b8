/- Contracts of functions (printed by gen.py of this work): what each hands back; condition: as its 'hside' says. -/
import Derived.Test.YtjlgeoaomegbmaaFacts
import Derived.Test.YtjlgeoaomegbmaaAr
import Derived.Test.YtjlgeoaomegbmaaChecked
namespace Go.Proofs.Ytjlgeoaomegbmaa.Eng
open Go Go.RowKit
set_option linter.unusedVariables false
set_option linter.unusedSimpArgs false

theorem b_whole : Bodied Try.prog 59 := bodied Try.func59 rfl (by decide)
def r_whole (n : Int) : SV := .c (.v (.bool (whole n)))
def F_whole (κ : Kp) : List SV → Heap → Option (Prop × SV) := fun args _ => match args with
  | [.c (.v (.int .i64 n))] => some (κ _ (True), .c (.v (.bool (κ _ (whole n)))))
  | _ => none
set_option maxRecDepth 100000 in
theorem k_whole (n : Int) (w : World) (hside : True) : Calls Try.prog 59 #[(SV.c (.v (.int .i64 n))).den] w fun e w' => e = .returned (r_whole n).den ∧ Below w.heap.size w w' := by
  obtain ⟨κ, hκ⟩ : ∃ κ : Kp, κ = kid := ⟨_, rfl⟩
  refine pureE FTok [] mixed [] Try.func59 rfl (by kernel_rfl) _ [(0, .c (.v (.int .i64 n)))] _ w 6 rfl [.tmp 2] rfl (by simp) (by simp [SV.den, C.den]) hκ ?_
  cbv
  repeat' (first | refine And.intro ?_ ?_ | (intro _; cbv) | (refine tst_mk (fun h => ?_) (fun h => ?_) <;> cbv))
  all_goals subst hκ
  all_goals (try delta kid at *)
  all_goals (try simp only [kid] at *)
  all_goals (refine ⟨?_⟩)
  all_goals (try (simp_all [r_whole, SV.den, C.den, SV.den0, whole]; done))
  all_goals (try simp_all [r_whole, SV.den, C.den, SV.den0, whole])
  all_goals (try (rw [Bool.eq_iff_iff]; simp only [Bool.and_eq_true, Bool.or_eq_true, decide_eq_true_eq, Bool.not_eq_true', decide_eq_false_iff_not, beq_iff_eq]; omega))
  all_goals (try omega)
def e_whole {κ : Kp} (hκ : κ = kid) : ESpec Try.prog := pureES b_whole F_whole hκ fun args H s v w0 M w H' hF hs _ _ => by
  unfold F_whole at hF
  split at hF
  · rename_i n
    injection hF with hF
    injection hF with h1 h2
    subst h1 h2
    exact k_whole n w hs
  · cases hF

theorem b_formed : Bodied Try.prog 31 := bodied Try.func31 rfl (by decide)
def r_formed (a : Ar) : SV := .c (.v (.bool (formed a)))
def F_formed (κ : Kp) : List SV → Heap → Option (Prop × SV) := fun args _ => match args with
  | [.agg [.v (.int .i64 a1), .v (.int .i64 a2), .v (.int .i64 a3), .v (.bool a4), .v (.int .i64 a5), .v (.int .i64 a6)]] => some (κ _ (True), .c (.v (.bool (κ _ (formed (⟨a1, a2, a3, a4, a5, a6⟩ : Ar))))))
  | _ => none
set_option maxRecDepth 100000 in
theorem k_formed (a1 : Int) (a2 : Int) (a3 : Int) (a4 : Bool) (a5 : Int) (a6 : Int) (w : World) (hside : True) : Calls Try.prog 31 #[(SV.agg [.v (.int .i64 a1), .v (.int .i64 a2), .v (.int .i64 a3), .v (.bool a4), .v (.int .i64 a5), .v (.int .i64 a6)]).den] w fun e w' => e = .returned (r_formed (⟨a1, a2, a3, a4, a5, a6⟩ : Ar)).den ∧ Below w.heap.size w w' := by
  obtain ⟨κ, hκ⟩ : ∃ κ : Kp, κ = kid := ⟨_, rfl⟩
  refine pureE FTok [e_whole hκ] mixed [] Try.func31 rfl (by kernel_rfl) _ [(0, .agg [.v (.int .i64 a1), .v (.int .i64 a2), .v (.int .i64 a3), .v (.bool a4), .v (.int .i64 a5), .v (.int .i64 a6)])] _ w 75 rfl [.tmp 2] rfl (by simp) (by simp [SV.den, C.den]) hκ ?_
  cbv
  repeat' (first | refine And.intro ?_ ?_ | (intro _; cbv) | (refine tst_mk (fun h => ?_) (fun h => ?_) <;> cbv))
  all_goals subst hκ
  all_goals (try delta kid at *)
  all_goals (try simp only [kid] at *)
  all_goals (refine ⟨?_⟩)
  all_goals simp only [r_formed, SV.den, C.den, formed, w64, Value.bool.injEq]
  all_goals (try simp only [Bool.not_eq_true', Bool.not_eq_false'] at *)
  all_goals (simp only [*, Bool.not_true, Bool.not_false, Bool.or_true, Bool.true_or, Bool.or_false, Bool.false_or, Bool.and_true, Bool.true_and, Bool.and_false, Bool.false_and, if_true, if_false, GT.gt, GE.ge, Bool.false_eq_true, beq_iff_eq])
  all_goals (try simp_all)
  all_goals (try rfl)
def e_formed {κ : Kp} (hκ : κ = kid) : ESpec Try.prog := pureES b_formed F_formed hκ fun args H s v w0 M w H' hF hs _ _ => by
  unfold F_formed at hF
  split at hF
  · rename_i a1 a2 a3 a4 a5 a6
    injection hF with hF
    injection hF with h1 h2
    subst h1 h2
    exact k_formed a1 a2 a3 a4 a5 a6 w hs
  · cases hF

theorem b_has : Bodied Try.prog 32 := bodied Try.func32 rfl (by decide)
def r_has (a : Ar) (at_ : Int) : SV := .c (.v (.bool (hasA a at_)))
def F_has (κ : Kp) : List SV → Heap → Option (Prop × SV) := fun args _ => match args with
  | [.agg [.v (.int .i64 a1), .v (.int .i64 a2), .v (.int .i64 a3), .v (.bool a4), .v (.int .i64 a5), .v (.int .i64 a6)], .c (.v (.int .i64 at_))] => some (κ _ (True), .c (.v (.bool (κ _ (hasA (⟨a1, a2, a3, a4, a5, a6⟩ : Ar) at_)))))
  | _ => none
set_option maxRecDepth 100000 in
theorem k_has (a1 : Int) (a2 : Int) (a3 : Int) (a4 : Bool) (a5 : Int) (a6 : Int) (at_ : Int) (w : World) (hside : True) : Calls Try.prog 32 #[(SV.agg [.v (.int .i64 a1), .v (.int .i64 a2), .v (.int .i64 a3), .v (.bool a4), .v (.int .i64 a5), .v (.int .i64 a6)]).den, (SV.c (.v (.int .i64 at_))).den] w fun e w' => e = .returned (r_has (⟨a1, a2, a3, a4, a5, a6⟩ : Ar) at_).den ∧ Below w.heap.size w w' := by
  obtain ⟨κ, hκ⟩ : ∃ κ : Kp, κ = kid := ⟨_, rfl⟩
  refine pureE FTok [e_formed hκ] mixed [] Try.func32 rfl (by kernel_rfl) _ [(0, .agg [.v (.int .i64 a1), .v (.int .i64 a2), .v (.int .i64 a3), .v (.bool a4), .v (.int .i64 a5), .v (.int .i64 a6)]), (1, .c (.v (.int .i64 at_)))] _ w 19 rfl [.tmp 4] rfl (by simp) (by simp [SV.den, C.den]) hκ ?_
  cbv
  repeat' (first | refine And.intro ?_ ?_ | (intro _; cbv) | (refine tst_mk (fun h => ?_) (fun h => ?_) <;> cbv))
  all_goals subst hκ
  all_goals (try delta kid at *)
  all_goals (try simp only [kid] at *)
  all_goals (refine ⟨?_⟩)
  all_goals (try (simp_all [r_has, SV.den, C.den, SV.den0, hasA]; done))
  all_goals (try simp_all [r_has, SV.den, C.den, SV.den0, hasA])
  all_goals (try (rw [Bool.eq_iff_iff]; simp only [Bool.and_eq_true, Bool.or_eq_true, decide_eq_true_eq, Bool.not_eq_true', decide_eq_false_iff_not, beq_iff_eq]; omega))
  all_goals (try omega)
def e_has {κ : Kp} (hκ : κ = kid) : ESpec Try.prog := pureES b_has F_has hκ fun args H s v w0 M w H' hF hs _ _ => by
  unfold F_has at hF
  split at hF
  · rename_i a1 a2 a3 a4 a5 a6 at_
    injection hF with hF
    injection hF with h1 h2
    subst h1 h2
    exact k_has a1 a2 a3 a4 a5 a6 at_ w hs
  · cases hF

theorem b_off : Bodied Try.prog 58 := bodied Try.func58 rfl (by decide)
def r_off (a : Ar) (at_ : Int) : SV := .c (.v (.int .i64 (offA a at_)))
def F_off (κ : Kp) : List SV → Heap → Option (Prop × SV) := fun args _ => match args with
  | [.agg [.v (.int .i64 a1), .v (.int .i64 a2), .v (.int .i64 a3), .v (.bool a4), .v (.int .i64 a5), .v (.int .i64 a6)], .c (.v (.int .i64 at_))] => some (κ _ (True), .c (.v (.int .i64 (κ _ (offA (⟨a1, a2, a3, a4, a5, a6⟩ : Ar) at_)))))
  | _ => none
set_option maxRecDepth 100000 in
theorem k_off (a1 : Int) (a2 : Int) (a3 : Int) (a4 : Bool) (a5 : Int) (a6 : Int) (at_ : Int) (w : World) (hside : True) : Calls Try.prog 58 #[(SV.agg [.v (.int .i64 a1), .v (.int .i64 a2), .v (.int .i64 a3), .v (.bool a4), .v (.int .i64 a5), .v (.int .i64 a6)]).den, (SV.c (.v (.int .i64 at_))).den] w fun e w' => e = .returned (r_off (⟨a1, a2, a3, a4, a5, a6⟩ : Ar) at_).den ∧ Below w.heap.size w w' := by
  obtain ⟨κ, hκ⟩ : ∃ κ : Kp, κ = kid := ⟨_, rfl⟩
  refine pureE FTok [] mixed [] Try.func58 rfl (by kernel_rfl) _ [(0, .agg [.v (.int .i64 a1), .v (.int .i64 a2), .v (.int .i64 a3), .v (.bool a4), .v (.int .i64 a5), .v (.int .i64 a6)]), (1, .c (.v (.int .i64 at_)))] _ w 15 rfl [.tmp 4] rfl (by simp) (by simp [SV.den, C.den]) hκ ?_
  cbv
  repeat' (first | refine And.intro ?_ ?_ | (intro _; cbv) | (refine tst_mk (fun h => ?_) (fun h => ?_) <;> cbv))
  all_goals subst hκ
  all_goals (try delta kid at *)
  all_goals (try simp only [kid] at *)
  all_goals (refine ⟨?_⟩)
  all_goals (try (simp_all [r_off, SV.den, C.den, SV.den0, offA, w64]; done))
  all_goals (try simp_all [r_off, SV.den, C.den, SV.den0, offA, w64])
  all_goals (try (rw [Bool.eq_iff_iff]; simp only [Bool.and_eq_true, Bool.or_eq_true, decide_eq_true_eq, Bool.not_eq_true', decide_eq_false_iff_not, beq_iff_eq]; omega))
  all_goals (try omega)
def e_off {κ : Kp} (hκ : κ = kid) : ESpec Try.prog := pureES b_off F_off hκ fun args H s v w0 M w H' hF hs _ _ => by
  unfold F_off at hF
  split at hF
  · rename_i a1 a2 a3 a4 a5 a6 at_
    injection hF with hF
    injection hF with h1 h2
    subst h1 h2
    exact k_off a1 a2 a3 a4 a5 a6 at_ w hs
  · cases hF

theorem b_attr : Bodied Try.prog 29 := bodied Try.func29 rfl (by decide)
def r_attr (a : Ar) (at_ : Int) : SV := .tup [.agg [.v (.int .i64 ((attrA a at_).p)), .v (.bool ((attrA a at_).sh)), .v (.int .i64 ((attrA a at_).b)), .v (.int .i64 ((attrA a at_).o))], .c (.v (.bool (hasA a at_)))]
def F_attr (κ : Kp) : List SV → Heap → Option (Prop × SV) := fun args _ => match args with
  | [.agg [.v (.int .i64 a1), .v (.int .i64 a2), .v (.int .i64 a3), .v (.bool a4), .v (.int .i64 a5), .v (.int .i64 a6)], .c (.v (.int .i64 at_))] => some (κ _ (True), .tup [.agg [.v (.int .i64 (κ _ ((attrA (⟨a1, a2, a3, a4, a5, a6⟩ : Ar) at_).p))), .v (.bool (κ _ ((attrA (⟨a1, a2, a3, a4, a5, a6⟩ : Ar) at_).sh))), .v (.int .i64 (κ _ ((attrA (⟨a1, a2, a3, a4, a5, a6⟩ : Ar) at_).b))), .v (.int .i64 (κ _ ((attrA (⟨a1, a2, a3, a4, a5, a6⟩ : Ar) at_).o)))], .c (.v (.bool (κ _ (hasA (⟨a1, a2, a3, a4, a5, a6⟩ : Ar) at_))))])
  | _ => none
set_option maxRecDepth 100000 in
theorem k_attr (a1 : Int) (a2 : Int) (a3 : Int) (a4 : Bool) (a5 : Int) (a6 : Int) (at_ : Int) (w : World) (hside : True) : Calls Try.prog 29 #[(SV.agg [.v (.int .i64 a1), .v (.int .i64 a2), .v (.int .i64 a3), .v (.bool a4), .v (.int .i64 a5), .v (.int .i64 a6)]).den, (SV.c (.v (.int .i64 at_))).den] w fun e w' => e = .returned (r_attr (⟨a1, a2, a3, a4, a5, a6⟩ : Ar) at_).den ∧ Below w.heap.size w w' := by
  obtain ⟨κ, hκ⟩ : ∃ κ : Kp, κ = kid := ⟨_, rfl⟩
  refine pureE FTok [e_has hκ, e_off hκ] mixed [(3, [[], [], [0, 1], [0, 1], [0, 1, 2, 3], [0, 1, 2, 3], [0, 1, 2, 3, 4, 5], [0, 1, 2, 3, 4, 5, 6], [0, 1, 2, 3, 4, 5, 6, 7], [0, 1, 2, 3, 4, 5, 6, 7], [0, 1, 2, 3, 4, 5, 6], [0, 1, 2, 3, 4, 5], [], [], []])] Try.func29 rfl (by kernel_rfl) _ [(0, .agg [.v (.int .i64 a1), .v (.int .i64 a2), .v (.int .i64 a3), .v (.bool a4), .v (.int .i64 a5), .v (.int .i64 a6)]), (1, .c (.v (.int .i64 at_)))] _ w 24 rfl [.cell 4 39, .tmp 5] rfl (by simp) (by simp [SV.den, C.den]) hκ ?_
  cbv
  repeat' (first | refine And.intro ?_ ?_ | (intro _; cbv) | (refine tst_mk (fun h => ?_) (fun h => ?_) <;> cbv))
  all_goals subst hκ
  all_goals (try delta kid at *)
  all_goals (try simp only [kid] at *)
  all_goals (refine ⟨?_⟩)
  all_goals (try (simp_all [r_attr, SV.den, C.den, SV.den0, attrA, noAt, w64]; done))
  all_goals (try simp_all [r_attr, SV.den, C.den, SV.den0, attrA, noAt, w64])
  all_goals (try (rw [Bool.eq_iff_iff]; simp only [Bool.and_eq_true, Bool.or_eq_true, decide_eq_true_eq, Bool.not_eq_true', decide_eq_false_iff_not, beq_iff_eq]; omega))
  all_goals (try omega)
def e_attr {κ : Kp} (hκ : κ = kid) : ESpec Try.prog := pureES b_attr F_attr hκ fun args H s v w0 M w H' hF hs _ _ => by
  unfold F_attr at hF
  split at hF
  · rename_i a1 a2 a3 a4 a5 a6 at_
    injection hF with hF
    injection hF with h1 h2
    subst h1 h2
    exact k_attr a1 a2 a3 a4 a5 a6 at_ w hs
  · cases hF

end Go.Proofs.Ytjlgeoaomegbmaa.Eng
