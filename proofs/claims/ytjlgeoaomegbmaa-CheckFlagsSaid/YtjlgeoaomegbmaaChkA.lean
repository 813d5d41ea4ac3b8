/- Contracts of functions (printed by gen.py of this work): what each hands back; condition: as its 'hside' says. -/
import Derived.Test.YtjlgeoaomegbmaaFacts
import Derived.Test.YtjlgeoaomegbmaaChecked
import Derived.Test.YtjlgeoaomegbmaaCheck9
namespace Go.Proofs.Ytjlgeoaomegbmaa.Eng
open Go Go.RowKit
set_option linter.unusedVariables false
set_option linter.unusedSimpArgs false

theorem b_size : Bodied Try.prog 18 := bodied Try.func18 rfl (by decide)
def r_size (n : Int) : SV := .tup [.c (.v (.int .i64 (sizeV n))), .c (.v (.int .i64 (sizeE n)))]
def F_size (κ : Kp) : List SV → Heap → Option (Prop × SV) := fun args _ => match args with
  | [.c (.v (.int .i64 n))] => some (κ _ (True), .tup [.c (.v (.int .i64 (κ _ (sizeV n)))), .c (.v (.int .i64 (κ _ (sizeE n))))])
  | _ => none
set_option maxRecDepth 100000 in
theorem k_size (n : Int) (w : World) (hside : True) : Calls Try.prog 18 #[(SV.c (.v (.int .i64 n))).den] w fun e w' => e = .returned (r_size n).den ∧ Below w.heap.size w w' := by
  obtain ⟨κ, hκ⟩ : ∃ κ : Kp, κ = kid := ⟨_, rfl⟩
  refine pureE FTok [] mixed [] Try.func18 rfl (by kernel_rfl) _ [(0, .c (.v (.int .i64 n)))] _ w 19 rfl [.tmp 2, .tmp 3] rfl (by simp) (by simp [SV.den, C.den]) hκ ?_
  cbv
  repeat' (first | refine And.intro ?_ ?_ | (intro _; cbv) | (refine tst_mk (fun h => ?_) (fun h => ?_) <;> cbv))
  all_goals subst hκ
  all_goals (try delta kid at *)
  all_goals (try (exact ⟨trivial⟩))
  all_goals (try (exact ⟨by decide⟩))
  all_goals (refine ⟨?_⟩)
  all_goals simp only [r_size, SV.den, SV.den0, C.den, sizeV, sizeE, sizeBad, GT.gt, GE.ge, List.map_cons, List.map_nil]
  all_goals (try simp only [*, Bool.or_true, Bool.true_or, Bool.or_false, Bool.false_or, if_true, if_false, Bool.false_eq_true])
  all_goals (try rfl)
  all_goals (try (simp_all; done))
def e_size {κ : Kp} (hκ : κ = kid) : ESpec Try.prog := pureES b_size F_size hκ fun args H s v w0 M w H' hF hs _ _ => by
  unfold F_size at hF
  split at hF
  · rename_i n
    injection hF with hF
    injection hF with h1 h2
    subst h1 h2
    exact k_size n w hs
  · cases hF

theorem b_prot : Bodied Try.prog 24 := bodied Try.func24 rfl (by decide)
def r_prot (p : Int) : SV := .c (.v (.int .i64 (protE p)))
def F_prot (κ : Kp) : List SV → Heap → Option (Prop × SV) := fun args _ => match args with
  | [.c (.v (.int .i64 p))] => some (κ _ (True), .c (.v (.int .i64 (κ _ (protE p)))))
  | _ => none
set_option maxRecDepth 100000 in
theorem k_prot (p : Int) (w : World) (hside : True) : Calls Try.prog 24 #[(SV.c (.v (.int .i64 p))).den] w fun e w' => e = .returned (r_prot p).den ∧ Below w.heap.size w w' := by
  obtain ⟨κ, hκ⟩ : ∃ κ : Kp, κ = kid := ⟨_, rfl⟩
  refine pureE FTok [] mixed [] Try.func24 rfl (by kernel_rfl) _ [(0, .c (.v (.int .i64 p)))] _ w 9 rfl [.tmp 2] rfl (by simp) (by simp [SV.den, C.den]) hκ ?_
  cbv
  repeat' (first | refine And.intro ?_ ?_ | (intro _; cbv) | (refine tst_mk (fun h => ?_) (fun h => ?_) <;> cbv))
  all_goals subst hκ
  all_goals (try delta kid at *)
  all_goals (try (exact ⟨trivial⟩))
  all_goals (try (exact ⟨by decide⟩))
  all_goals (refine ⟨?_⟩)
  all_goals simp only [r_prot, SV.den, SV.den0, C.den, protE, GT.gt, GE.ge, List.map_cons, List.map_nil]
  all_goals (try simp only [*, Bool.or_true, Bool.true_or, Bool.or_false, Bool.false_or, if_true, if_false, Bool.false_eq_true])
  all_goals (try rfl)
  all_goals (try (simp_all; done))
def e_prot {κ : Kp} (hκ : κ = kid) : ESpec Try.prog := pureES b_prot F_prot hκ fun args H s v w0 M w H' hF hs _ _ => by
  unfold F_prot at hF
  split at hF
  · rename_i p
    injection hF with hF
    injection hF with h1 h2
    subst h1 h2
    exact k_prot p w hs
  · cases hF

theorem b_flags : Bodied Try.prog 23 := bodied Try.func23 rfl (by decide)
def r_flags (f : Int) (al : Int) : SV := .c (.v (.int .i64 (flagsE f al)))
def F_flags (κ : Kp) : List SV → Heap → Option (Prop × SV) := fun args _ => match args with
  | [.c (.v (.int .i64 f)), .c (.v (.int .i64 al))] => some (κ _ (True), .c (.v (.int .i64 (κ _ (flagsE f al)))))
  | _ => none
set_option maxRecDepth 100000 in
theorem k_flags (f : Int) (al : Int) (w : World) (hside : True) : Calls Try.prog 23 #[(SV.c (.v (.int .i64 f))).den, (SV.c (.v (.int .i64 al))).den] w fun e w' => e = .returned (r_flags f al).den ∧ Below w.heap.size w w' := by
  obtain ⟨κ, hκ⟩ : ∃ κ : Kp, κ = kid := ⟨_, rfl⟩
  refine pureE FTok [] mixed [] Try.func23 rfl (by kernel_rfl) _ [(0, .c (.v (.int .i64 f))), (1, .c (.v (.int .i64 al)))] _ w 13 rfl [.tmp 4] rfl (by simp) (by simp [SV.den, C.den]) hκ ?_
  cbv
  repeat' (first | refine And.intro ?_ ?_ | (intro _; cbv) | (refine tst_mk (fun h => ?_) (fun h => ?_) <;> cbv))
  all_goals subst hκ
  all_goals (try delta kid at *)
  all_goals (try (exact ⟨trivial⟩))
  all_goals (try (exact ⟨by decide⟩))
  all_goals (refine ⟨?_⟩)
  all_goals simp only [r_flags, SV.den, SV.den0, C.den, flagsE, GT.gt, GE.ge, List.map_cons, List.map_nil]
  all_goals (try simp only [*, Bool.or_true, Bool.true_or, Bool.or_false, Bool.false_or, if_true, if_false, Bool.false_eq_true])
  all_goals (try rfl)
  all_goals (try (simp_all; done))
def e_flags {κ : Kp} (hκ : κ = kid) : ESpec Try.prog := pureES b_flags F_flags hκ fun args H s v w0 M w H' hF hs _ _ => by
  unfold F_flags at hF
  split at hF
  · rename_i f al
    injection hF with hF
    injection hF with h1 h2
    subst h1 h2
    exact k_flags f al w hs
  · cases hF

theorem b_awake9 : Bodied Try.prog 20 := bodied Try.func20 rfl (by decide)
def r_awake9  : SV := .c (.v (.bool (true)))
def F_awake9 (κ : Kp) : List SV → Heap → Option (Prop × SV) := fun args _ => match args with
  | [] => some (κ _ (True), .c (.v (.bool (κ _ (true)))))
  | _ => none
set_option maxRecDepth 100000 in
theorem k_awake9  (w : World) (hside : True) : Calls Try.prog 20 #[] w fun e w' => e = .returned (r_awake9 ).den ∧ Below w.heap.size w w' := by
  obtain ⟨κ, hκ⟩ : ∃ κ : Kp, κ = kid := ⟨_, rfl⟩
  refine pureE FTok [e_size hκ, e_prot hκ] mixed [] Try.func20 rfl (by kernel_rfl) _ [] _ w 17 rfl [.tmp 0] rfl (by simp) (by simp [SV.den, C.den]) hκ ?_
  cbv
  repeat' (first | refine And.intro ?_ ?_ | (intro _; cbv) | (refine tst_mk (fun h => ?_) (fun h => ?_) <;> cbv))
  all_goals subst hκ
  all_goals (try delta kid at *)
  all_goals (try (exact ⟨trivial⟩))
  all_goals (try (refine ⟨?_⟩))
  all_goals (have h9 := aw9; simp_all [r_awake9, SV.den, C.den])
def e_awake9 {κ : Kp} (hκ : κ = kid) : ESpec Try.prog := pureES b_awake9 F_awake9 hκ fun args H s v w0 M w H' hF hs _ _ => by
  unfold F_awake9 at hF
  split at hF
  · skip
    injection hF with hF
    injection hF with h1 h2
    subst h1 h2
    exact k_awake9  w hs
  · cases hF

end Go.Proofs.Ytjlgeoaomegbmaa.Eng
