/- Contracts of functions (printed by gen.py of this work): what each hands back; condition: as its 'hside' says. -/
import Derived.Test.YtjlgeoaomegbmaaChkA
import Derived.Test.YtjlgeoaomegbmaaEng17
namespace Go.Proofs.Ytjlgeoaomegbmaa.Eng
open Go Go.RowKit
set_option linter.unusedVariables false
set_option linter.unusedSimpArgs false

theorem b_flagsL : Bodied Try.prog 5 := bodied Try.func5 rfl (by decide)
def r_flagsL (x : Int) (al : Int) (pr : Int) : SV := .c (.v (.bool (true)))
def F_flagsL (κ : Kp) : List SV → Heap → Option (Prop × SV) := fun args _ => match args with
  | [.c (.v (.int .i64 x)), .c (.v (.int .u8 al)), .c (.v (.int .i64 pr))] => some (κ _ (In64 x ∧ 0 ≤ al ∧ al ≤ 255), .c (.v (.bool (κ _ (true)))))
  | _ => none
set_option maxRecDepth 100000 in
theorem k_flagsL (x : Int) (al : Int) (pr : Int) (w : World) (hside : In64 x ∧ 0 ≤ al ∧ al ≤ 255) : Calls Try.prog 5 #[(SV.c (.v (.int .i64 x))).den, (SV.c (.v (.int .u8 al))).den, (SV.c (.v (.int .i64 pr))).den] w fun e w' => e = .returned (r_flagsL x al pr).den ∧ Below w.heap.size w w' := by
  obtain ⟨κ, hκ⟩ : ∃ κ : Kp, κ = kid := ⟨_, rfl⟩
  refine pureE FTok [e_awake9 hκ, e_flags hκ, e_prot hκ] mixed [] Try.func5 rfl (by kernel_rfl) _ [(0, .c (.v (.int .i64 x))), (1, .c (.v (.int .u8 al))), (2, .c (.v (.int .i64 pr)))] _ w 60 rfl [.tmp 6] rfl (by simp) (by simp [SV.den, C.den]) hκ ?_
  cbv
  repeat' (first | refine And.intro ?_ ?_ | (intro _; cbv) | (refine tst_mk (fun h => ?_) (fun h => ?_) <;> cbv))
  all_goals (try (refine loopK FTok [e_awake9 hκ, e_flags hκ, e_prot hκ] mixed [0, 1, 2] [] (σ := {s : Int × Int × Int // FlOk x (w64 al) s.1 s.2.1 s.2.2}) (fun s => [(7, .c (.v (.int .i64 (κ _ s.1.2.2)))), (8, .c (.v (.int .i64 (κ _ s.1.1)))), (9, .c (.v (.int .i64 (κ _ s.1.2.1))))]) (fun _ => []) (fun s => s.1.1.toNat) ⟨(x, w64 al, if (decide (x < 0)) = true then 1 else 0), FlOk.start hside.1 hside.2⟩ [] ?_ (by decide) ?_ hκ ?_))
  all_goals (try (intro s))
  all_goals (try cbv)
  all_goals (repeat' (first | refine And.intro ?_ ?_ | (intro _; cbv) | (refine tst_mk (fun h => ?_) (fun h => ?_) <;> cbv)))
  all_goals (try (refine ⟨⟨⟨(w64 (Int.tdiv s.1.1 2), w64 (Int.tdiv s.1.2.1 2), flW s.1.1 s.1.2.1 s.1.2.2), FlOk.step s.2 (by subst hκ; delta kid at *; exact of_decide_eq_true ‹decide (0 < s.1.1) = true›)⟩, [], (by subst hκ; delta kid at *; exact fl_mu s.2 (of_decide_eq_true ‹decide (0 < s.1.1) = true›)), by decide, ?_, ?_⟩⟩ <;> cbv))

  all_goals subst hκ
  all_goals (try delta kid at *)
  all_goals (try (exact ⟨trivial⟩))
  all_goals (try (exact ⟨by decide⟩))
  all_goals (try (exact trivial))
  all_goals (try (refine ⟨?_⟩))
  all_goals (try rfl)
  all_goals (try (show Value.int _ _ = Value.int _ (ite _ _ _); rw [h]; rfl))
  all_goals (try (exact ⟨by simp_all [flW], rfl, rfl, trivial⟩))
  all_goals (try (have ho := FlOk.out s.2 (of_decide_eq_false ‹decide (0 < s.1.1) = false›); clear hside; simp only [protE] at *; simp_all [r_flagsL, SV.den, C.den]; done))
  all_goals (try (cases h; done))
  all_goals (have hp := prot_key (of_decide_eq_true ‹decide (0 ≤ pr) = true›); rw [hp] at h; simp at h)
def e_flagsL {κ : Kp} (hκ : κ = kid) : ESpec Try.prog := pureES b_flagsL F_flagsL hκ fun args H s v w0 M w H' hF hs _ _ => by
  unfold F_flagsL at hF
  split at hF
  · rename_i x al pr
    injection hF with hF
    injection hF with h1 h2
    subst h1 h2
    exact k_flagsL x al pr w hs
  · cases hF

end Go.Proofs.Ytjlgeoaomegbmaa.Eng
