/- Texts of this work, laid together: symbolic execution over the model, contracts of the program's functions, what they come to; conditions: as each says. -/
import Derived.Test.YtbcicjmepojlnaaPkKHA
/- Contracts of functions (printed by gen.py of this work): what each hands back; condition: as its 'hside' says. -/
namespace Go.Proofs.Ytbcicjmepojlnaa.Eng
open Go Go.RowKit
set_option linter.unusedVariables false
set_option linter.unusedSimpArgs false
theorem b_goes : Bodied Try.prog 109 := bodied Try.func109 rfl (by decide)
def r_goes (x : Ar) (y : Ar) : SV := .c (.v (.bool (goesA x y)))
def F_goes (κ : Kp) : List SV → Heap → Option (Prop × SV) := fun args _ => match args with
  | [.agg [.v (.int .i64 x1), .v (.int .i64 x2), .v (.int .i64 x3), .v (.bool x4), .v (.int .i64 x5), .v (.int .i64 x6)], .agg [.v (.int .i64 y1), .v (.int .i64 y2), .v (.int .i64 y3), .v (.bool y4), .v (.int .i64 y5), .v (.int .i64 y6)]] => some (κ _ (True), .c (.v (.bool (κ _ (goesA (⟨x1, x2, x3, x4, x5, x6⟩ : Ar) (⟨y1, y2, y3, y4, y5, y6⟩ : Ar))))))
  | _ => none
set_option maxRecDepth 100000 in
set_option maxHeartbeats 4000000 in
theorem k_goes (x1 : Int) (x2 : Int) (x3 : Int) (x4 : Bool) (x5 : Int) (x6 : Int) (y1 : Int) (y2 : Int) (y3 : Int) (y4 : Bool) (y5 : Int) (y6 : Int) (w : World) (hside : True) : Calls Try.prog 109 #[(SV.agg [.v (.int .i64 x1), .v (.int .i64 x2), .v (.int .i64 x3), .v (.bool x4), .v (.int .i64 x5), .v (.int .i64 x6)]).den, (SV.agg [.v (.int .i64 y1), .v (.int .i64 y2), .v (.int .i64 y3), .v (.bool y4), .v (.int .i64 y5), .v (.int .i64 y6)]).den] w fun e w' => e = .returned (r_goes (⟨x1, x2, x3, x4, x5, x6⟩ : Ar) (⟨y1, y2, y3, y4, y5, y6⟩ : Ar)).den ∧ Below w.heap.size w w' := by
  obtain ⟨κ, hκ⟩ : ∃ κ : Kp, κ = kid := ⟨_, rfl⟩
  refine pureE FTok [e_formed hκ, e_off hκ] mixed [(1, [[], [], [], [], [], [], [], [], [], [7, 8], [7, 8], [], [], [], [], [], [14, 15], [14, 15], [], [], [], [], [], [21, 22], [21, 22], [], [], [], [], [], [28, 29], [28, 29], [], [], [], [], [], [35, 36], [35, 36, 37], [35, 36, 37], [35, 36], [], [], []])] Try.func109 rfl (by kernel_rfl) _ [(0, .agg [.v (.int .i64 x1), .v (.int .i64 x2), .v (.int .i64 x3), .v (.bool x4), .v (.int .i64 x5), .v (.int .i64 x6)]), (1, .agg [.v (.int .i64 y1), .v (.int .i64 y2), .v (.int .i64 y3), .v (.bool y4), .v (.int .i64 y5), .v (.int .i64 y6)])] _ w 48 rfl [.tmp 4] rfl (by simp) (by simp [SV.den, C.den]) hκ ?_
  cbv
  repeat' (first | refine And.intro ?_ ?_ | (intro _; cbv) | (refine tst_mk (fun h => ?_) (fun h => ?_) <;> cbv))
  all_goals subst hκ
  all_goals (try delta kid at *)
  all_goals (try simp only [kid] at *)
  all_goals (refine ⟨?_⟩)
  all_goals (try (simp_all [r_goes, SV.den, C.den, SV.den0, goesA]; done))
  all_goals (try simp_all [r_goes, SV.den, C.den, SV.den0, goesA])
  all_goals (try (rw [Bool.eq_iff_iff]; simp only [Bool.and_eq_true, Bool.or_eq_true, decide_eq_true_eq, Bool.not_eq_true', decide_eq_false_iff_not, beq_iff_eq]; omega))
  all_goals (try omega)
def e_goes {κ : Kp} (hκ : κ = kid) : ESpec Try.prog := pureES b_goes F_goes hκ fun args H s v w0 M w H' hF hs _ _ => by
  unfold F_goes at hF
  split at hF
  · rename_i x1 x2 x3 x4 x5 x6 y1 y2 y3 y4 y5 y6
    injection hF with hF
    injection hF with h1 h2
    subst h1 h2
    exact k_goes x1 x2 x3 x4 x5 x6 y1 y2 y3 y4 y5 y6 w hs
  · cases hF
theorem b_join : Bodied Try.prog 148 := bodied Try.func148 rfl (by decide)
def r_join (x : Ar) (y : Ar) : SV := .tup [.agg [.v (.int .i64 ((joinA x y).s)), .v (.int .i64 ((joinA x y).e)), .v (.int .i64 ((joinA x y).p)), .v (.bool ((joinA x y).sh)), .v (.int .i64 ((joinA x y).b)), .v (.int .i64 ((joinA x y).o))], .c (.v (.bool (joinsA x y)))]
def F_join (κ : Kp) : List SV → Heap → Option (Prop × SV) := fun args _ => match args with
  | [.agg [.v (.int .i64 x1), .v (.int .i64 x2), .v (.int .i64 x3), .v (.bool x4), .v (.int .i64 x5), .v (.int .i64 x6)], .agg [.v (.int .i64 y1), .v (.int .i64 y2), .v (.int .i64 y3), .v (.bool y4), .v (.int .i64 y5), .v (.int .i64 y6)]] => some (κ _ (True), .tup [.agg [.v (.int .i64 (κ _ ((joinA (⟨x1, x2, x3, x4, x5, x6⟩ : Ar) (⟨y1, y2, y3, y4, y5, y6⟩ : Ar)).s))), .v (.int .i64 (κ _ ((joinA (⟨x1, x2, x3, x4, x5, x6⟩ : Ar) (⟨y1, y2, y3, y4, y5, y6⟩ : Ar)).e))), .v (.int .i64 (κ _ ((joinA (⟨x1, x2, x3, x4, x5, x6⟩ : Ar) (⟨y1, y2, y3, y4, y5, y6⟩ : Ar)).p))), .v (.bool (κ _ ((joinA (⟨x1, x2, x3, x4, x5, x6⟩ : Ar) (⟨y1, y2, y3, y4, y5, y6⟩ : Ar)).sh))), .v (.int .i64 (κ _ ((joinA (⟨x1, x2, x3, x4, x5, x6⟩ : Ar) (⟨y1, y2, y3, y4, y5, y6⟩ : Ar)).b))), .v (.int .i64 (κ _ ((joinA (⟨x1, x2, x3, x4, x5, x6⟩ : Ar) (⟨y1, y2, y3, y4, y5, y6⟩ : Ar)).o)))], .c (.v (.bool (κ _ (joinsA (⟨x1, x2, x3, x4, x5, x6⟩ : Ar) (⟨y1, y2, y3, y4, y5, y6⟩ : Ar)))))])
  | _ => none
set_option maxRecDepth 100000 in
set_option maxHeartbeats 4000000 in
theorem k_join (x1 : Int) (x2 : Int) (x3 : Int) (x4 : Bool) (x5 : Int) (x6 : Int) (y1 : Int) (y2 : Int) (y3 : Int) (y4 : Bool) (y5 : Int) (y6 : Int) (w : World) (hside : True) : Calls Try.prog 148 #[(SV.agg [.v (.int .i64 x1), .v (.int .i64 x2), .v (.int .i64 x3), .v (.bool x4), .v (.int .i64 x5), .v (.int .i64 x6)]).den, (SV.agg [.v (.int .i64 y1), .v (.int .i64 y2), .v (.int .i64 y3), .v (.bool y4), .v (.int .i64 y5), .v (.int .i64 y6)]).den] w fun e w' => e = .returned (r_join (⟨x1, x2, x3, x4, x5, x6⟩ : Ar) (⟨y1, y2, y3, y4, y5, y6⟩ : Ar)).den ∧ Below w.heap.size w w' := by
  obtain ⟨κ, hκ⟩ : ∃ κ : Kp, κ = kid := ⟨_, rfl⟩
  refine pureE FTok [e_goes hκ, e_formed hκ] mixed [] Try.func148 rfl (by kernel_rfl) _ [(0, .agg [.v (.int .i64 x1), .v (.int .i64 x2), .v (.int .i64 x3), .v (.bool x4), .v (.int .i64 x5), .v (.int .i64 x6)]), (1, .agg [.v (.int .i64 y1), .v (.int .i64 y2), .v (.int .i64 y3), .v (.bool y4), .v (.int .i64 y5), .v (.int .i64 y6)])] _ w 32 rfl [.cell 4 53, .tmp 5] rfl (by simp) (by simp [SV.den, C.den]) hκ ?_
  cbv
  repeat' (first | refine And.intro ?_ ?_ | (intro _; cbv) | (refine tst_mk (fun h => ?_) (fun h => ?_) <;> cbv))
  all_goals subst hκ
  all_goals (try delta kid at *)
  all_goals (try simp only [kid] at *)
  all_goals (refine ⟨?_⟩)
  all_goals (try (simp_all [r_join, SV.den, C.den, SV.den0, joinA, joinsA, noAr]; done))
  all_goals (try simp_all [r_join, SV.den, C.den, SV.den0, joinA, joinsA, noAr])
  all_goals (try (rw [Bool.eq_iff_iff]; simp only [Bool.and_eq_true, Bool.or_eq_true, decide_eq_true_eq, Bool.not_eq_true', decide_eq_false_iff_not, beq_iff_eq]; omega))
  all_goals (try omega)
def e_join {κ : Kp} (hκ : κ = kid) : ESpec Try.prog := pureES b_join F_join hκ fun args H s v w0 M w H' hF hs _ _ => by
  unfold F_join at hF
  split at hF
  · rename_i x1 x2 x3 x4 x5 x6 y1 y2 y3 y4 y5 y6
    injection hF with hF
    injection hF with h1 h2
    subst h1 h2
    exact k_join x1 x2 x3 x4 x5 x6 y1 y2 y3 y4 y5 y6 w hs
  · cases hF
end Go.Proofs.Ytbcicjmepojlnaa.Eng
/- Contracts of functions (printed by gen.py of this work): what each hands back; condition: as its 'hside' says. -/
namespace Go.Proofs.Ytbcicjmepojlnaa.Eng
open Go Go.RowKit
set_option linter.unusedVariables false
set_option linter.unusedSimpArgs false
theorem b_floor : Bodied Try.prog 158 := bodied Try.func158 rfl (by decide)
def r_floor (n : Int) : SV := .c (.v (.int .i64 (floorA n)))
def F_floor (κ : Kp) : List SV → Heap → Option (Prop × SV) := fun args _ => match args with
  | [.c (.v (.int .i64 n))] => some (κ _ (True), .c (.v (.int .i64 (κ _ (floorA n)))))
  | _ => none
set_option maxRecDepth 100000 in
set_option maxHeartbeats 4000000 in
theorem k_floor (n : Int) (w : World) (hside : True) : Calls Try.prog 158 #[(SV.c (.v (.int .i64 n))).den] w fun e w' => e = .returned (r_floor n).den ∧ Below w.heap.size w w' := by
  obtain ⟨κ, hκ⟩ : ∃ κ : Kp, κ = kid := ⟨_, rfl⟩
  refine pureE FTok [] mixed [] Try.func158 rfl (by kernel_rfl) _ [(0, .c (.v (.int .i64 n)))] _ w 9 rfl [.tmp 2] rfl (by simp) (by simp [SV.den, C.den]) hκ ?_
  cbv
  repeat' (first | refine And.intro ?_ ?_ | (intro _; cbv) | (refine tst_mk (fun h => ?_) (fun h => ?_) <;> cbv))
  all_goals subst hκ
  all_goals (try delta kid at *)
  all_goals (try simp only [kid] at *)
  all_goals (refine ⟨?_⟩)
  all_goals (try (simp_all [r_floor, SV.den, C.den, SV.den0, floorA, w64]; done))
  all_goals (try simp_all [r_floor, SV.den, C.den, SV.den0, floorA, w64])
  all_goals (try (rw [Bool.eq_iff_iff]; simp only [Bool.and_eq_true, Bool.or_eq_true, decide_eq_true_eq, Bool.not_eq_true', decide_eq_false_iff_not, beq_iff_eq]; omega))
  all_goals (try omega)
def e_floor {κ : Kp} (hκ : κ = kid) : ESpec Try.prog := pureES b_floor F_floor hκ fun args H s v w0 M w H' hF hs _ _ => by
  unfold F_floor at hF
  split at hF
  · rename_i n
    injection hF with hF
    injection hF with h1 h2
    subst h1 h2
    exact k_floor n w hs
  · cases hF
theorem b_ceil : Bodied Try.prog 159 := bodied Try.func159 rfl (by decide)
def r_ceil (n : Int) : SV := .c (.v (.int .i64 (ceilA n)))
def F_ceil (κ : Kp) : List SV → Heap → Option (Prop × SV) := fun args _ => match args with
  | [.c (.v (.int .i64 n))] => some (κ _ (True), .c (.v (.int .i64 (κ _ (ceilA n)))))
  | _ => none
set_option maxRecDepth 100000 in
set_option maxHeartbeats 4000000 in
theorem k_ceil (n : Int) (w : World) (hside : True) : Calls Try.prog 159 #[(SV.c (.v (.int .i64 n))).den] w fun e w' => e = .returned (r_ceil n).den ∧ Below w.heap.size w w' := by
  obtain ⟨κ, hκ⟩ : ∃ κ : Kp, κ = kid := ⟨_, rfl⟩
  refine pureE FTok [e_floor hκ] mixed [] Try.func159 rfl (by kernel_rfl) _ [(0, .c (.v (.int .i64 n)))] _ w 9 rfl [.tmp 2] rfl (by simp) (by simp [SV.den, C.den]) hκ ?_
  cbv
  repeat' (first | refine And.intro ?_ ?_ | (intro _; cbv) | (refine tst_mk (fun h => ?_) (fun h => ?_) <;> cbv))
  all_goals subst hκ
  all_goals (try delta kid at *)
  all_goals (try simp only [kid] at *)
  all_goals (refine ⟨?_⟩)
  all_goals (try (simp_all [r_ceil, SV.den, C.den, SV.den0, ceilA, w64]; done))
  all_goals (try simp_all [r_ceil, SV.den, C.den, SV.den0, ceilA, w64])
  all_goals (try (rw [Bool.eq_iff_iff]; simp only [Bool.and_eq_true, Bool.or_eq_true, decide_eq_true_eq, Bool.not_eq_true', decide_eq_false_iff_not, beq_iff_eq]; omega))
  all_goals (try omega)
def e_ceil {κ : Kp} (hκ : κ = kid) : ESpec Try.prog := pureES b_ceil F_ceil hκ fun args H s v w0 M w H' hF hs _ _ => by
  unfold F_ceil at hF
  split at hF
  · rename_i n
    injection hF with hF
    injection hF with h1 h2
    subst h1 h2
    exact k_ceil n w hs
  · cases hF
theorem b_part : Bodied Try.prog 147 := bodied Try.func147 rfl (by decide)
def r_part (a : Ar) (lo : Int) (hi : Int) : SV := .tup [.agg [.v (.int .i64 ((partA a lo hi).s)), .v (.int .i64 ((partA a lo hi).e)), .v (.int .i64 ((partA a lo hi).p)), .v (.bool ((partA a lo hi).sh)), .v (.int .i64 ((partA a lo hi).b)), .v (.int .i64 ((partA a lo hi).o))], .c (.v (.bool (hasPart a lo hi)))]
def F_part (κ : Kp) : List SV → Heap → Option (Prop × SV) := fun args _ => match args with
  | [.agg [.v (.int .i64 a1), .v (.int .i64 a2), .v (.int .i64 a3), .v (.bool a4), .v (.int .i64 a5), .v (.int .i64 a6)], .c (.v (.int .i64 lo)), .c (.v (.int .i64 hi))] => some (κ _ (True), .tup [.agg [.v (.int .i64 (κ _ ((partA (⟨a1, a2, a3, a4, a5, a6⟩ : Ar) lo hi).s))), .v (.int .i64 (κ _ ((partA (⟨a1, a2, a3, a4, a5, a6⟩ : Ar) lo hi).e))), .v (.int .i64 (κ _ ((partA (⟨a1, a2, a3, a4, a5, a6⟩ : Ar) lo hi).p))), .v (.bool (κ _ ((partA (⟨a1, a2, a3, a4, a5, a6⟩ : Ar) lo hi).sh))), .v (.int .i64 (κ _ ((partA (⟨a1, a2, a3, a4, a5, a6⟩ : Ar) lo hi).b))), .v (.int .i64 (κ _ ((partA (⟨a1, a2, a3, a4, a5, a6⟩ : Ar) lo hi).o)))], .c (.v (.bool (κ _ (hasPart (⟨a1, a2, a3, a4, a5, a6⟩ : Ar) lo hi))))])
  | _ => none
set_option maxRecDepth 100000 in
set_option maxHeartbeats 4000000 in
theorem k_part (a1 : Int) (a2 : Int) (a3 : Int) (a4 : Bool) (a5 : Int) (a6 : Int) (lo : Int) (hi : Int) (w : World) (hside : True) : Calls Try.prog 147 #[(SV.agg [.v (.int .i64 a1), .v (.int .i64 a2), .v (.int .i64 a3), .v (.bool a4), .v (.int .i64 a5), .v (.int .i64 a6)]).den, (SV.c (.v (.int .i64 lo))).den, (SV.c (.v (.int .i64 hi))).den] w fun e w' => e = .returned (r_part (⟨a1, a2, a3, a4, a5, a6⟩ : Ar) lo hi).den ∧ Below w.heap.size w w' := by
  obtain ⟨κ, hκ⟩ : ∃ κ : Kp, κ = kid := ⟨_, rfl⟩
  refine pureE FTok [e_formed hκ, e_floor hκ, e_ceil hκ, e_off hκ] mixed [(3, [[], [], [0, 1], [0, 1], [0, 1], [], [0, 1, 2, 3, 4, 5], [0, 1, 2, 3, 4, 5], [0, 1, 2, 3, 4, 5, 6, 7], [0, 1, 5, 6, 7], [0, 1, 5], [6, 7, 10], []])] Try.func147 rfl (by kernel_rfl) _ [(0, .agg [.v (.int .i64 a1), .v (.int .i64 a2), .v (.int .i64 a3), .v (.bool a4), .v (.int .i64 a5), .v (.int .i64 a6)]), (1, .c (.v (.int .i64 lo))), (2, .c (.v (.int .i64 hi)))] _ w 55 rfl [.cell 6 53, .tmp 7] rfl (by simp) (by simp [SV.den, C.den]) hκ ?_
  cbv
  repeat' (first | refine And.intro ?_ ?_ | (intro _; cbv) | (refine tst_mk (fun h => ?_) (fun h => ?_) <;> cbv))
  all_goals subst hκ
  all_goals (try delta kid at *)
  all_goals (try simp only [kid] at *)
  all_goals (refine ⟨?_⟩)
  all_goals (try (have h2 : decide (fromA ⟨a1, a2, a3, a4, a5, a6⟩ lo ≥ toA ⟨a1, a2, a3, a4, a5, a6⟩ hi) = true := h; have h3 : hasPart ⟨a1, a2, a3, a4, a5, a6⟩ lo hi = false := (by unfold hasPart; rw [h2]; split <;> rfl); simp only [r_part, partA, h3, Bool.false_eq_true, if_false]; rfl))
  all_goals (try (have h2 : decide (fromA ⟨a1, a2, a3, a4, a5, a6⟩ lo ≥ toA ⟨a1, a2, a3, a4, a5, a6⟩ hi) = false := h; have h3 : hasPart ⟨a1, a2, a3, a4, a5, a6⟩ lo hi = true := (by unfold hasPart; rw [h2]; simp only [*, GT.gt, GE.ge, Bool.or_false, Bool.false_eq_true, if_false, Bool.not_false, Bool.not_true, Bool.false_or]); simp only [r_part, partA, h3, if_true]; rfl))
  all_goals simp only [r_part, SV.den, SV.den0, C.den, partA, hasPart, noAr, fromA, toA, maxI, minI, GT.gt, GE.ge, List.map_cons, List.map_nil]
  all_goals (simp only [*, Bool.not_true, Bool.not_false, Bool.or_true, Bool.true_or, Bool.or_false, Bool.false_or, if_true, if_false, Bool.false_eq_true])
  all_goals (try (have h' := of_decide_eq_true h; simp only [h', decide_true, Bool.not_true, Bool.false_eq_true, if_false]))
  all_goals (try simp only [Bool.not_true, Bool.not_false, Bool.false_eq_true, if_true, if_false])
  all_goals (try rfl)
def e_part {κ : Kp} (hκ : κ = kid) : ESpec Try.prog := pureES b_part F_part hκ fun args H s v w0 M w H' hF hs _ _ => by
  unfold F_part at hF
  split at hF
  · rename_i a1 a2 a3 a4 a5 a6 lo hi
    injection hF with hF
    injection hF with h1 h2
    subst h1 h2
    exact k_part a1 a2 a3 a4 a5 a6 lo hi w hs
  · cases hF
end Go.Proofs.Ytbcicjmepojlnaa.Eng
