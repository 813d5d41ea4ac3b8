/- Texts of this work, laid together: symbolic execution over the model, contracts of the program's functions, what they come to; conditions: as each says. -/
import Derived.Test.YtbcicjmepojlnaaPkYAJ
import Derived.Test.YtbcicjmepojlnaaPkYAK
/- Contracts of functions (printed by gen.py of this work): what each hands back; condition: as its 'hside' says. -/
namespace Go.Proofs.Ytbcicjmepojlnaa.Eng
open Go Go.RowKit
set_option linter.unusedVariables false
set_option linter.unusedSimpArgs false
theorem b_refF : Bodied Try.prog 59 := bodied Try.func59 rfl (by decide)
def r_refF (a : Ar) : SV := .c (.v (.bool (refF a)))
def F_refF (κ : Kp) : List SV → Heap → Option (Prop × SV) := fun args _ => match args with
  | [.agg [.v (.int .i64 a1), .v (.int .i64 a2), .v (.int .i64 a3), .v (.bool a4), .v (.int .i64 a5), .v (.int .i64 a6)]] => some (κ _ (True), .c (.v (.bool (κ _ (refF (⟨a1, a2, a3, a4, a5, a6⟩ : Ar))))))
  | _ => none
set_option maxRecDepth 100000 in
set_option maxHeartbeats 4000000 in
theorem k_refF (a1 : Int) (a2 : Int) (a3 : Int) (a4 : Bool) (a5 : Int) (a6 : Int) (w : World) (hside : True) : Calls Try.prog 59 #[(SV.agg [.v (.int .i64 a1), .v (.int .i64 a2), .v (.int .i64 a3), .v (.bool a4), .v (.int .i64 a5), .v (.int .i64 a6)]).den] w fun e w' => e = .returned (r_refF (⟨a1, a2, a3, a4, a5, a6⟩ : Ar)).den ∧ Below w.heap.size w w' := by
  obtain ⟨κ, hκ⟩ : ∃ κ : Kp, κ = kid := ⟨_, rfl⟩
  refine pureE FTok [] mixed [] Try.func59 rfl (by kernel_rfl) _ [(0, .agg [.v (.int .i64 a1), .v (.int .i64 a2), .v (.int .i64 a3), .v (.bool a4), .v (.int .i64 a5), .v (.int .i64 a6)])] _ w 88 rfl [.tmp 2] rfl (by simp) (by simp [SV.den, C.den]) hκ ?_
  cbv
  repeat' (first | refine And.intro ?_ ?_ | (intro _; cbv) | (refine tst_mk (fun h => ?_) (fun h => ?_) <;> cbv))
  all_goals subst hκ
  all_goals (try delta kid at *)
  all_goals (try (refine ⟨?_⟩))
  all_goals (try decide)
  all_goals simp only [r_refF, SV.den, C.den, refF, refBad, Value.bool.injEq, GT.gt, GE.ge]
  all_goals (simp only [*, Bool.not_true, Bool.not_false, Bool.or_true, Bool.true_or, Bool.or_false, Bool.false_or, Bool.and_true, Bool.true_and, Bool.and_false, Bool.false_and, if_true, if_false, Bool.false_eq_true])
  all_goals (try rfl)
  all_goals (try simp_all)
  all_goals (try rfl)
def e_refF {κ : Kp} (hκ : κ = kid) : ESpec Try.prog := pureES b_refF F_refF hκ fun args H s v w0 M w H' hF hs _ _ => by
  unfold F_refF at hF
  split at hF
  · rename_i a1 a2 a3 a4 a5 a6
    injection hF with hF
    injection hF with h1 h2
    subst h1 h2
    exact k_refF a1 a2 a3 a4 a5 a6 w hs
  · cases hF
theorem b_refAttr : Bodied Try.prog 98 := bodied Try.func98 rfl (by decide)
def r_refAttr (a : Ar) (q : Int) : SV := .tup [.agg [.v (.int .i64 ((refAttr a q).p)), .v (.bool ((refAttr a q).sh)), .v (.int .i64 ((refAttr a q).b)), .v (.int .i64 ((refAttr a q).o))], .c (.v (.bool (refHas a q)))]
def F_refAttr (κ : Kp) : List SV → Heap → Option (Prop × SV) := fun args _ => match args with
  | [.agg [.v (.int .i64 a1), .v (.int .i64 a2), .v (.int .i64 a3), .v (.bool a4), .v (.int .i64 a5), .v (.int .i64 a6)], .c (.v (.int .i64 q))] => some (κ _ (True), .tup [.agg [.v (.int .i64 (κ _ ((refAttr (⟨a1, a2, a3, a4, a5, a6⟩ : Ar) q).p))), .v (.bool (κ _ ((refAttr (⟨a1, a2, a3, a4, a5, a6⟩ : Ar) q).sh))), .v (.int .i64 (κ _ ((refAttr (⟨a1, a2, a3, a4, a5, a6⟩ : Ar) q).b))), .v (.int .i64 (κ _ ((refAttr (⟨a1, a2, a3, a4, a5, a6⟩ : Ar) q).o)))], .c (.v (.bool (κ _ (refHas (⟨a1, a2, a3, a4, a5, a6⟩ : Ar) q))))])
  | _ => none
set_option maxRecDepth 100000 in
set_option maxHeartbeats 4000000 in
theorem k_refAttr (a1 : Int) (a2 : Int) (a3 : Int) (a4 : Bool) (a5 : Int) (a6 : Int) (q : Int) (w : World) (hside : True) : Calls Try.prog 98 #[(SV.agg [.v (.int .i64 a1), .v (.int .i64 a2), .v (.int .i64 a3), .v (.bool a4), .v (.int .i64 a5), .v (.int .i64 a6)]).den, (SV.c (.v (.int .i64 q))).den] w fun e w' => e = .returned (r_refAttr (⟨a1, a2, a3, a4, a5, a6⟩ : Ar) q).den ∧ Below w.heap.size w w' := by
  obtain ⟨κ, hκ⟩ : ∃ κ : Kp, κ = kid := ⟨_, rfl⟩
  refine pureE FTok [] mixed [] Try.func98 rfl (by kernel_rfl) _ [(0, .agg [.v (.int .i64 a1), .v (.int .i64 a2), .v (.int .i64 a3), .v (.bool a4), .v (.int .i64 a5), .v (.int .i64 a6)]), (1, .c (.v (.int .i64 q)))] _ w 41 rfl [.cell 4 29, .tmp 5] rfl (by simp) (by simp [SV.den, C.den]) hκ ?_
  cbv
  repeat' (first | refine And.intro ?_ ?_ | (intro _; cbv) | (refine tst_mk (fun h => ?_) (fun h => ?_) <;> cbv))
  all_goals subst hκ
  all_goals (try delta kid at *)
  all_goals (try (refine ⟨?_⟩))
  all_goals (try decide)
  all_goals simp only [r_refAttr, SV.den, SV.den0, C.den, refAttr, refHas, noAt, GT.gt, GE.ge, List.map_cons, List.map_nil]
  all_goals (simp only [*, Bool.or_true, Bool.true_or, Bool.or_false, Bool.false_or, if_true, if_false, Bool.false_eq_true])
  all_goals (try rfl)
def e_refAttr {κ : Kp} (hκ : κ = kid) : ESpec Try.prog := pureES b_refAttr F_refAttr hκ fun args H s v w0 M w H' hF hs _ _ => by
  unfold F_refAttr at hF
  split at hF
  · rename_i a1 a2 a3 a4 a5 a6 q
    injection hF with hF
    injection hF with h1 h2
    subst h1 h2
    exact k_refAttr a1 a2 a3 a4 a5 a6 q w hs
  · cases hF
theorem b_after : Bodied Try.prog 103 := bodied Try.func103 rfl (by decide)
def r_after (x : At) (y : At) : SV := .c (.v (.bool (afterA x y)))
def F_after (κ : Kp) : List SV → Heap → Option (Prop × SV) := fun args _ => match args with
  | [.agg [.v (.int .i64 x1), .v (.bool x2), .v (.int .i64 x3), .v (.int .i64 x4)], .agg [.v (.int .i64 y1), .v (.bool y2), .v (.int .i64 y3), .v (.int .i64 y4)]] => some (κ _ (True), .c (.v (.bool (κ _ (afterA (⟨x1, x2, x3, x4⟩ : At) (⟨y1, y2, y3, y4⟩ : At))))))
  | _ => none
set_option maxRecDepth 100000 in
set_option maxHeartbeats 4000000 in
theorem k_after (x1 : Int) (x2 : Bool) (x3 : Int) (x4 : Int) (y1 : Int) (y2 : Bool) (y3 : Int) (y4 : Int) (w : World) (hside : True) : Calls Try.prog 103 #[(SV.agg [.v (.int .i64 x1), .v (.bool x2), .v (.int .i64 x3), .v (.int .i64 x4)]).den, (SV.agg [.v (.int .i64 y1), .v (.bool y2), .v (.int .i64 y3), .v (.int .i64 y4)]).den] w fun e w' => e = .returned (r_after (⟨x1, x2, x3, x4⟩ : At) (⟨y1, y2, y3, y4⟩ : At)).den ∧ Below w.heap.size w w' := by
  obtain ⟨κ, hκ⟩ : ∃ κ : Kp, κ = kid := ⟨_, rfl⟩
  refine pureE FTok [] mixed [] Try.func103 rfl (by kernel_rfl) _ [(0, .agg [.v (.int .i64 x1), .v (.bool x2), .v (.int .i64 x3), .v (.int .i64 x4)]), (1, .agg [.v (.int .i64 y1), .v (.bool y2), .v (.int .i64 y3), .v (.int .i64 y4)])] _ w 17 rfl [.tmp 4] rfl (by simp) (by simp [SV.den, C.den]) hκ ?_
  cbv
  repeat' (first | refine And.intro ?_ ?_ | (intro _; cbv) | (refine tst_mk (fun h => ?_) (fun h => ?_) <;> cbv))
  all_goals subst hκ
  all_goals (try delta kid at *)
  all_goals (try (refine ⟨?_⟩))
  all_goals simp only [r_after, SV.den, C.den, afterA, GT.gt]
  all_goals (simp only [*, if_true, if_false, Bool.false_eq_true])
  all_goals (try rfl)
def e_after {κ : Kp} (hκ : κ = kid) : ESpec Try.prog := pureES b_after F_after hκ fun args H s v w0 M w H' hF hs _ _ => by
  unfold F_after at hF
  split at hF
  · rename_i x1 x2 x3 x4 y1 y2 y3 y4
    injection hF with hF
    injection hF with h1 h2
    subst h1 h2
    exact k_after x1 x2 x3 x4 y1 y2 y3 y4 w hs
  · cases hF
end Go.Proofs.Ytbcicjmepojlnaa.Eng
/- Contracts of functions of lists (printed by genl.py of this work): what each hands back; condition: as its 'hside' says. -/
namespace Go.Proofs.Ytbcicjmepojlnaa.Eng
open Go Go.RowKit
set_option linter.unusedVariables false
set_option linter.unusedSimpArgs false
end Go.Proofs.Ytbcicjmepojlnaa.Eng
/- Contracts of functions of lists (printed by genl.py of this work): what each hands back; condition: as its 'hside' says. -/
namespace Go.Proofs.Ytbcicjmepojlnaa.Eng
open Go Go.RowKit
set_option linter.unusedVariables false
set_option linter.unusedSimpArgs false
end Go.Proofs.Ytbcicjmepojlnaa.Eng
