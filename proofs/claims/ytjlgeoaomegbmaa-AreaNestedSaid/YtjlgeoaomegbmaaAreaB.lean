/- Contracts of functions (printed by gen.py of this work): what each hands back; condition: as its 'hside' says. -/
import Derived.Test.YtjlgeoaomegbmaaAreaA
namespace Go.Proofs.Ytjlgeoaomegbmaa.Eng
open Go Go.RowKit
set_option linter.unusedVariables false
set_option linter.unusedSimpArgs false

theorem b_goes : Bodied Try.prog 36 := bodied Try.func36 rfl (by decide)
def r_goes (x : Ar) (y : Ar) : SV := .c (.v (.bool (goesA x y)))
def F_goes (κ : Kp) : List SV → Heap → Option (Prop × SV) := fun args _ => match args with
  | [.agg [.v (.int .i64 x1), .v (.int .i64 x2), .v (.int .i64 x3), .v (.bool x4), .v (.int .i64 x5), .v (.int .i64 x6)], .agg [.v (.int .i64 y1), .v (.int .i64 y2), .v (.int .i64 y3), .v (.bool y4), .v (.int .i64 y5), .v (.int .i64 y6)]] => some (κ _ (True), .c (.v (.bool (κ _ (goesA (⟨x1, x2, x3, x4, x5, x6⟩ : Ar) (⟨y1, y2, y3, y4, y5, y6⟩ : Ar))))))
  | _ => none
set_option maxRecDepth 100000 in
theorem k_goes (x1 : Int) (x2 : Int) (x3 : Int) (x4 : Bool) (x5 : Int) (x6 : Int) (y1 : Int) (y2 : Int) (y3 : Int) (y4 : Bool) (y5 : Int) (y6 : Int) (w : World) (hside : True) : Calls Try.prog 36 #[(SV.agg [.v (.int .i64 x1), .v (.int .i64 x2), .v (.int .i64 x3), .v (.bool x4), .v (.int .i64 x5), .v (.int .i64 x6)]).den, (SV.agg [.v (.int .i64 y1), .v (.int .i64 y2), .v (.int .i64 y3), .v (.bool y4), .v (.int .i64 y5), .v (.int .i64 y6)]).den] w fun e w' => e = .returned (r_goes (⟨x1, x2, x3, x4, x5, x6⟩ : Ar) (⟨y1, y2, y3, y4, y5, y6⟩ : Ar)).den ∧ Below w.heap.size w w' := by
  obtain ⟨κ, hκ⟩ : ∃ κ : Kp, κ = kid := ⟨_, rfl⟩
  refine pureE FTok [e_formed hκ, e_off hκ] mixed [(1, [[], [], [], [], [], [], [], [], [], [7, 8], [7, 8], [], [], [], [], [], [14, 15], [14, 15], [], [], [], [], [], [21, 22], [21, 22], [], [], [], [], [], [28, 29], [28, 29], [], [], [], [], [], [35, 36], [35, 36, 37], [35, 36, 37], [35, 36], [], [], []])] Try.func36 rfl (by kernel_rfl) _ [(0, .agg [.v (.int .i64 x1), .v (.int .i64 x2), .v (.int .i64 x3), .v (.bool x4), .v (.int .i64 x5), .v (.int .i64 x6)]), (1, .agg [.v (.int .i64 y1), .v (.int .i64 y2), .v (.int .i64 y3), .v (.bool y4), .v (.int .i64 y5), .v (.int .i64 y6)])] _ w 48 rfl [.tmp 4] rfl (by simp) (by simp [SV.den, C.den]) hκ ?_
  cbv
  repeat' (first | refine And.intro ?_ ?_ | (intro _; cbv) | (refine tst_mk (fun h => ?_) (fun h => ?_) <;> cbv))
  all_goals subst hκ
  all_goals (try delta kid at *)
  all_goals (try simp only [kid] at *)
  all_goals (refine ⟨?_⟩)
  all_goals (try (simp_all [r_goes, SV.den, C.den, SV.den0, goesA]; done))
  all_goals (try simp_all [r_goes, SV.den, C.den, SV.den0, goesA])
  all_goals (try (rw [Bool.eq_iff_iff]; simp only [Bool.and_eq_true, Bool.or_eq_true, decide_eq_true_eq, Bool.not_eq_true', decide_eq_false_iff_not, beq_iff_eq]; omega))
  all_goals (try omega)
def e_goes {κ : Kp} (hκ : κ = kid) : ESpec Try.prog := pureES b_goes F_goes hκ fun args H s v w0 M w H' hF hs _ _ => by
  unfold F_goes at hF
  split at hF
  · rename_i x1 x2 x3 x4 x5 x6 y1 y2 y3 y4 y5 y6
    injection hF with hF
    injection hF with h1 h2
    subst h1 h2
    exact k_goes x1 x2 x3 x4 x5 x6 y1 y2 y3 y4 y5 y6 w hs
  · cases hF

theorem b_join : Bodied Try.prog 34 := bodied Try.func34 rfl (by decide)
def r_join (x : Ar) (y : Ar) : SV := .tup [.agg [.v (.int .i64 ((joinA x y).s)), .v (.int .i64 ((joinA x y).e)), .v (.int .i64 ((joinA x y).p)), .v (.bool ((joinA x y).sh)), .v (.int .i64 ((joinA x y).b)), .v (.int .i64 ((joinA x y).o))], .c (.v (.bool (joinsA x y)))]
def F_join (κ : Kp) : List SV → Heap → Option (Prop × SV) := fun args _ => match args with
  | [.agg [.v (.int .i64 x1), .v (.int .i64 x2), .v (.int .i64 x3), .v (.bool x4), .v (.int .i64 x5), .v (.int .i64 x6)], .agg [.v (.int .i64 y1), .v (.int .i64 y2), .v (.int .i64 y3), .v (.bool y4), .v (.int .i64 y5), .v (.int .i64 y6)]] => some (κ _ (True), .tup [.agg [.v (.int .i64 (κ _ ((joinA (⟨x1, x2, x3, x4, x5, x6⟩ : Ar) (⟨y1, y2, y3, y4, y5, y6⟩ : Ar)).s))), .v (.int .i64 (κ _ ((joinA (⟨x1, x2, x3, x4, x5, x6⟩ : Ar) (⟨y1, y2, y3, y4, y5, y6⟩ : Ar)).e))), .v (.int .i64 (κ _ ((joinA (⟨x1, x2, x3, x4, x5, x6⟩ : Ar) (⟨y1, y2, y3, y4, y5, y6⟩ : Ar)).p))), .v (.bool (κ _ ((joinA (⟨x1, x2, x3, x4, x5, x6⟩ : Ar) (⟨y1, y2, y3, y4, y5, y6⟩ : Ar)).sh))), .v (.int .i64 (κ _ ((joinA (⟨x1, x2, x3, x4, x5, x6⟩ : Ar) (⟨y1, y2, y3, y4, y5, y6⟩ : Ar)).b))), .v (.int .i64 (κ _ ((joinA (⟨x1, x2, x3, x4, x5, x6⟩ : Ar) (⟨y1, y2, y3, y4, y5, y6⟩ : Ar)).o)))], .c (.v (.bool (κ _ (joinsA (⟨x1, x2, x3, x4, x5, x6⟩ : Ar) (⟨y1, y2, y3, y4, y5, y6⟩ : Ar)))))])
  | _ => none
set_option maxRecDepth 100000 in
theorem k_join (x1 : Int) (x2 : Int) (x3 : Int) (x4 : Bool) (x5 : Int) (x6 : Int) (y1 : Int) (y2 : Int) (y3 : Int) (y4 : Bool) (y5 : Int) (y6 : Int) (w : World) (hside : True) : Calls Try.prog 34 #[(SV.agg [.v (.int .i64 x1), .v (.int .i64 x2), .v (.int .i64 x3), .v (.bool x4), .v (.int .i64 x5), .v (.int .i64 x6)]).den, (SV.agg [.v (.int .i64 y1), .v (.int .i64 y2), .v (.int .i64 y3), .v (.bool y4), .v (.int .i64 y5), .v (.int .i64 y6)]).den] w fun e w' => e = .returned (r_join (⟨x1, x2, x3, x4, x5, x6⟩ : Ar) (⟨y1, y2, y3, y4, y5, y6⟩ : Ar)).den ∧ Below w.heap.size w w' := by
  obtain ⟨κ, hκ⟩ : ∃ κ : Kp, κ = kid := ⟨_, rfl⟩
  refine pureE FTok [e_goes hκ, e_formed hκ] mixed [] Try.func34 rfl (by kernel_rfl) _ [(0, .agg [.v (.int .i64 x1), .v (.int .i64 x2), .v (.int .i64 x3), .v (.bool x4), .v (.int .i64 x5), .v (.int .i64 x6)]), (1, .agg [.v (.int .i64 y1), .v (.int .i64 y2), .v (.int .i64 y3), .v (.bool y4), .v (.int .i64 y5), .v (.int .i64 y6)])] _ w 32 rfl [.cell 4 28, .tmp 5] rfl (by simp) (by simp [SV.den, C.den]) hκ ?_
  cbv
  repeat' (first | refine And.intro ?_ ?_ | (intro _; cbv) | (refine tst_mk (fun h => ?_) (fun h => ?_) <;> cbv))
  all_goals subst hκ
  all_goals (try delta kid at *)
  all_goals (try simp only [kid] at *)
  all_goals (refine ⟨?_⟩)
  all_goals (try (simp_all [r_join, SV.den, C.den, SV.den0, joinA, joinsA, noAr]; done))
  all_goals (try simp_all [r_join, SV.den, C.den, SV.den0, joinA, joinsA, noAr])
  all_goals (try (rw [Bool.eq_iff_iff]; simp only [Bool.and_eq_true, Bool.or_eq_true, decide_eq_true_eq, Bool.not_eq_true', decide_eq_false_iff_not, beq_iff_eq]; omega))
  all_goals (try omega)
def e_join {κ : Kp} (hκ : κ = kid) : ESpec Try.prog := pureES b_join F_join hκ fun args H s v w0 M w H' hF hs _ _ => by
  unfold F_join at hF
  split at hF
  · rename_i x1 x2 x3 x4 x5 x6 y1 y2 y3 y4 y5 y6
    injection hF with hF
    injection hF with h1 h2
    subst h1 h2
    exact k_join x1 x2 x3 x4 x5 x6 y1 y2 y3 y4 y5 y6 w hs
  · cases hF

end Go.Proofs.Ytjlgeoaomegbmaa.Eng
