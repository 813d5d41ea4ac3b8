/- Contracts of functions (printed by gen.py of this work): what each hands back; condition: as its 'hside' says. -/
import Derived.Test.YtjlgeoaomegbmaaAreaA
namespace Go.Proofs.Ytjlgeoaomegbmaa.Eng
open Go Go.RowKit
set_option linter.unusedVariables false
set_option linter.unusedSimpArgs false

theorem b_floor : Bodied Try.prog 61 := bodied Try.func61 rfl (by decide)
def r_floor (n : Int) : SV := .c (.v (.int .i64 (floorA n)))
def F_floor (κ : Kp) : List SV → Heap → Option (Prop × SV) := fun args _ => match args with
  | [.c (.v (.int .i64 n))] => some (κ _ (True), .c (.v (.int .i64 (κ _ (floorA n)))))
  | _ => none
set_option maxRecDepth 100000 in
theorem k_floor (n : Int) (w : World) (hside : True) : Calls Try.prog 61 #[(SV.c (.v (.int .i64 n))).den] w fun e w' => e = .returned (r_floor n).den ∧ Below w.heap.size w w' := by
  obtain ⟨κ, hκ⟩ : ∃ κ : Kp, κ = kid := ⟨_, rfl⟩
  refine pureE FTok [] mixed [] Try.func61 rfl (by kernel_rfl) _ [(0, .c (.v (.int .i64 n)))] _ w 9 rfl [.tmp 2] rfl (by simp) (by simp [SV.den, C.den]) hκ ?_
  cbv
  repeat' (first | refine And.intro ?_ ?_ | (intro _; cbv) | (refine tst_mk (fun h => ?_) (fun h => ?_) <;> cbv))
  all_goals subst hκ
  all_goals (try delta kid at *)
  all_goals (try simp only [kid] at *)
  all_goals (refine ⟨?_⟩)
  all_goals (try (simp_all [r_floor, SV.den, C.den, SV.den0, floorA, w64]; done))
  all_goals (try simp_all [r_floor, SV.den, C.den, SV.den0, floorA, w64])
  all_goals (try (rw [Bool.eq_iff_iff]; simp only [Bool.and_eq_true, Bool.or_eq_true, decide_eq_true_eq, Bool.not_eq_true', decide_eq_false_iff_not, beq_iff_eq]; omega))
  all_goals (try omega)
def e_floor {κ : Kp} (hκ : κ = kid) : ESpec Try.prog := pureES b_floor F_floor hκ fun args H s v w0 M w H' hF hs _ _ => by
  unfold F_floor at hF
  split at hF
  · rename_i n
    injection hF with hF
    injection hF with h1 h2
    subst h1 h2
    exact k_floor n w hs
  · cases hF

theorem b_ceil : Bodied Try.prog 62 := bodied Try.func62 rfl (by decide)
def r_ceil (n : Int) : SV := .c (.v (.int .i64 (ceilA n)))
def F_ceil (κ : Kp) : List SV → Heap → Option (Prop × SV) := fun args _ => match args with
  | [.c (.v (.int .i64 n))] => some (κ _ (True), .c (.v (.int .i64 (κ _ (ceilA n)))))
  | _ => none
set_option maxRecDepth 100000 in
theorem k_ceil (n : Int) (w : World) (hside : True) : Calls Try.prog 62 #[(SV.c (.v (.int .i64 n))).den] w fun e w' => e = .returned (r_ceil n).den ∧ Below w.heap.size w w' := by
  obtain ⟨κ, hκ⟩ : ∃ κ : Kp, κ = kid := ⟨_, rfl⟩
  refine pureE FTok [e_floor hκ] mixed [] Try.func62 rfl (by kernel_rfl) _ [(0, .c (.v (.int .i64 n)))] _ w 9 rfl [.tmp 2] rfl (by simp) (by simp [SV.den, C.den]) hκ ?_
  cbv
  repeat' (first | refine And.intro ?_ ?_ | (intro _; cbv) | (refine tst_mk (fun h => ?_) (fun h => ?_) <;> cbv))
  all_goals subst hκ
  all_goals (try delta kid at *)
  all_goals (try simp only [kid] at *)
  all_goals (refine ⟨?_⟩)
  all_goals (try (simp_all [r_ceil, SV.den, C.den, SV.den0, ceilA, w64]; done))
  all_goals (try simp_all [r_ceil, SV.den, C.den, SV.den0, ceilA, w64])
  all_goals (try (rw [Bool.eq_iff_iff]; simp only [Bool.and_eq_true, Bool.or_eq_true, decide_eq_true_eq, Bool.not_eq_true', decide_eq_false_iff_not, beq_iff_eq]; omega))
  all_goals (try omega)
def e_ceil {κ : Kp} (hκ : κ = kid) : ESpec Try.prog := pureES b_ceil F_ceil hκ fun args H s v w0 M w H' hF hs _ _ => by
  unfold F_ceil at hF
  split at hF
  · rename_i n
    injection hF with hF
    injection hF with h1 h2
    subst h1 h2
    exact k_ceil n w hs
  · cases hF

theorem b_may : Bodied Try.prog 22 := bodied Try.func22 rfl (by decide)
def r_may (a : Ar) (k : Int) : SV := .c (.v (.bool (mayA a k)))
def F_may (κ : Kp) : List SV → Heap → Option (Prop × SV) := fun args _ => match args with
  | [.agg [.v (.int .i64 a1), .v (.int .i64 a2), .v (.int .i64 a3), .v (.bool a4), .v (.int .i64 a5), .v (.int .i64 a6)], .c (.v (.int .i64 k))] => some (κ _ (True), .c (.v (.bool (κ _ (mayA (⟨a1, a2, a3, a4, a5, a6⟩ : Ar) k)))))
  | _ => none
set_option maxRecDepth 100000 in
theorem k_may (a1 : Int) (a2 : Int) (a3 : Int) (a4 : Bool) (a5 : Int) (a6 : Int) (k : Int) (w : World) (hside : True) : Calls Try.prog 22 #[(SV.agg [.v (.int .i64 a1), .v (.int .i64 a2), .v (.int .i64 a3), .v (.bool a4), .v (.int .i64 a5), .v (.int .i64 a6)]).den, (SV.c (.v (.int .i64 k))).den] w fun e w' => e = .returned (r_may (⟨a1, a2, a3, a4, a5, a6⟩ : Ar) k).den ∧ Below w.heap.size w w' := by
  obtain ⟨κ, hκ⟩ : ∃ κ : Kp, κ = kid := ⟨_, rfl⟩
  refine pureE FTok [] mixed [] Try.func22 rfl (by kernel_rfl) _ [(0, .agg [.v (.int .i64 a1), .v (.int .i64 a2), .v (.int .i64 a3), .v (.bool a4), .v (.int .i64 a5), .v (.int .i64 a6)]), (1, .c (.v (.int .i64 k)))] _ w 19 rfl [.tmp 4] rfl (by simp) (by simp [SV.den, C.den]) hκ ?_
  cbv
  repeat' (first | refine And.intro ?_ ?_ | (intro _; cbv) | (refine tst_mk (fun h => ?_) (fun h => ?_) <;> cbv))
  all_goals subst hκ
  all_goals (try delta kid at *)
  all_goals (try simp only [kid] at *)
  all_goals (refine ⟨?_⟩)
  all_goals (try (simp_all [r_may, SV.den, C.den, SV.den0, mayA]; done))
  all_goals (try simp_all [r_may, SV.den, C.den, SV.den0, mayA])
  all_goals (try (rw [Bool.eq_iff_iff]; simp only [Bool.and_eq_true, Bool.or_eq_true, decide_eq_true_eq, Bool.not_eq_true', decide_eq_false_iff_not, beq_iff_eq]; omega))
  all_goals (try omega)
def e_may {κ : Kp} (hκ : κ = kid) : ESpec Try.prog := pureES b_may F_may hκ fun args H s v w0 M w H' hF hs _ _ => by
  unfold F_may at hF
  split at hF
  · rename_i a1 a2 a3 a4 a5 a6 k
    injection hF with hF
    injection hF with h1 h2
    subst h1 h2
    exact k_may a1 a2 a3 a4 a5 a6 k w hs
  · cases hF

theorem b_part : Bodied Try.prog 45 := bodied Try.func45 rfl (by decide)
def r_part (a : Ar) (lo : Int) (hi : Int) : SV := .tup [.agg [.v (.int .i64 ((partA a lo hi).s)), .v (.int .i64 ((partA a lo hi).e)), .v (.int .i64 ((partA a lo hi).p)), .v (.bool ((partA a lo hi).sh)), .v (.int .i64 ((partA a lo hi).b)), .v (.int .i64 ((partA a lo hi).o))], .c (.v (.bool (hasPart a lo hi)))]
def F_part (κ : Kp) : List SV → Heap → Option (Prop × SV) := fun args _ => match args with
  | [.agg [.v (.int .i64 a1), .v (.int .i64 a2), .v (.int .i64 a3), .v (.bool a4), .v (.int .i64 a5), .v (.int .i64 a6)], .c (.v (.int .i64 lo)), .c (.v (.int .i64 hi))] => some (κ _ (True), .tup [.agg [.v (.int .i64 (κ _ ((partA (⟨a1, a2, a3, a4, a5, a6⟩ : Ar) lo hi).s))), .v (.int .i64 (κ _ ((partA (⟨a1, a2, a3, a4, a5, a6⟩ : Ar) lo hi).e))), .v (.int .i64 (κ _ ((partA (⟨a1, a2, a3, a4, a5, a6⟩ : Ar) lo hi).p))), .v (.bool (κ _ ((partA (⟨a1, a2, a3, a4, a5, a6⟩ : Ar) lo hi).sh))), .v (.int .i64 (κ _ ((partA (⟨a1, a2, a3, a4, a5, a6⟩ : Ar) lo hi).b))), .v (.int .i64 (κ _ ((partA (⟨a1, a2, a3, a4, a5, a6⟩ : Ar) lo hi).o)))], .c (.v (.bool (κ _ (hasPart (⟨a1, a2, a3, a4, a5, a6⟩ : Ar) lo hi))))])
  | _ => none
set_option maxRecDepth 100000 in
theorem k_part (a1 : Int) (a2 : Int) (a3 : Int) (a4 : Bool) (a5 : Int) (a6 : Int) (lo : Int) (hi : Int) (w : World) (hside : True) : Calls Try.prog 45 #[(SV.agg [.v (.int .i64 a1), .v (.int .i64 a2), .v (.int .i64 a3), .v (.bool a4), .v (.int .i64 a5), .v (.int .i64 a6)]).den, (SV.c (.v (.int .i64 lo))).den, (SV.c (.v (.int .i64 hi))).den] w fun e w' => e = .returned (r_part (⟨a1, a2, a3, a4, a5, a6⟩ : Ar) lo hi).den ∧ Below w.heap.size w w' := by
  obtain ⟨κ, hκ⟩ : ∃ κ : Kp, κ = kid := ⟨_, rfl⟩
  refine pureE FTok [e_formed hκ, e_floor hκ, e_ceil hκ, e_off hκ] mixed [(3, [[], [], [0, 1], [0, 1], [0, 1], [], [0, 1, 2, 3, 4, 5], [0, 1, 2, 3, 4, 5], [0, 1, 2, 3, 4, 5, 6, 7], [0, 1, 5, 6, 7], [0, 1, 5], [6, 7, 10], []])] Try.func45 rfl (by kernel_rfl) _ [(0, .agg [.v (.int .i64 a1), .v (.int .i64 a2), .v (.int .i64 a3), .v (.bool a4), .v (.int .i64 a5), .v (.int .i64 a6)]), (1, .c (.v (.int .i64 lo))), (2, .c (.v (.int .i64 hi)))] _ w 55 rfl [.cell 6 28, .tmp 7] rfl (by simp) (by simp [SV.den, C.den]) hκ ?_
  cbv
  repeat' (first | refine And.intro ?_ ?_ | (intro _; cbv) | (refine tst_mk (fun h => ?_) (fun h => ?_) <;> cbv))
  all_goals subst hκ
  all_goals (try delta kid at *)
  all_goals (try simp only [kid] at *)
  all_goals (refine ⟨?_⟩)
  all_goals (try (have h2 : decide (fromA ⟨a1, a2, a3, a4, a5, a6⟩ lo ≥ toA ⟨a1, a2, a3, a4, a5, a6⟩ hi) = true := h; have h3 : hasPart ⟨a1, a2, a3, a4, a5, a6⟩ lo hi = false := (by unfold hasPart; rw [h2]; split <;> rfl); simp only [r_part, partA, h3, Bool.false_eq_true, if_false]; rfl))
  all_goals (try (have h2 : decide (fromA ⟨a1, a2, a3, a4, a5, a6⟩ lo ≥ toA ⟨a1, a2, a3, a4, a5, a6⟩ hi) = false := h; have h3 : hasPart ⟨a1, a2, a3, a4, a5, a6⟩ lo hi = true := (by unfold hasPart; rw [h2]; simp only [*, GT.gt, GE.ge, Bool.or_false, Bool.false_eq_true, if_false, Bool.not_false, Bool.not_true, Bool.false_or]); simp only [r_part, partA, h3, if_true]; rfl))
  all_goals simp only [r_part, SV.den, SV.den0, C.den, partA, hasPart, noAr, fromA, toA, maxI, minI, GT.gt, GE.ge, List.map_cons, List.map_nil]
  all_goals (simp only [*, Bool.not_true, Bool.not_false, Bool.or_true, Bool.true_or, Bool.or_false, Bool.false_or, if_true, if_false, Bool.false_eq_true])
  all_goals (try (have h' := of_decide_eq_true h; simp only [h', decide_true, Bool.not_true, Bool.false_eq_true, if_false]))
  all_goals (try simp only [Bool.not_true, Bool.not_false, Bool.false_eq_true, if_true, if_false])
  all_goals (try rfl)
def e_part {κ : Kp} (hκ : κ = kid) : ESpec Try.prog := pureES b_part F_part hκ fun args H s v w0 M w H' hF hs _ _ => by
  unfold F_part at hF
  split at hF
  · rename_i a1 a2 a3 a4 a5 a6 lo hi
    injection hF with hF
    injection hF with h1 h2
    subst h1 h2
    exact k_part a1 a2 a3 a4 a5 a6 lo hi w hs
  · cases hF

end Go.Proofs.Ytjlgeoaomegbmaa.Eng
