/- Contracts of functions (printed by gen.py of this work): what each hands back; condition: as its 'hside' says. -/
import Derived.Test.YtjlgeoaomegbmaaLaw6a
import Derived.Test.YtjlgeoaomegbmaaAreaD
import Derived.Test.YtjlgeoaomegbmaaGoes6
import Derived.Test.YtjlgeoaomegbmaaEng17
namespace Go.Proofs.Ytjlgeoaomegbmaa.Eng
open Go Go.RowKit
set_option linter.unusedVariables false
set_option linter.unusedSimpArgs false

theorem b_goesL : Bodied Try.prog 11 := bodied Try.func11 rfl (by decide)
def r_goesL (x : Ar) (y : Ar) : SV := .c (.v (.bool (true)))
def F_goesL (κ : Kp) : List SV → Heap → Option (Prop × SV) := fun args _ => match args with
  | [.agg [.v (.int .i64 x1), .v (.int .i64 x2), .v (.int .i64 x3), .v (.bool x4), .v (.int .i64 x5), .v (.int .i64 x6)], .agg [.v (.int .i64 y1), .v (.int .i64 y2), .v (.int .i64 y3), .v (.bool y4), .v (.int .i64 y5), .v (.int .i64 y6)]] => some (κ _ (True), .c (.v (.bool (κ _ (true)))))
  | _ => none
set_option maxRecDepth 100000 in
theorem k_goesL (x1 : Int) (x2 : Int) (x3 : Int) (x4 : Bool) (x5 : Int) (x6 : Int) (y1 : Int) (y2 : Int) (y3 : Int) (y4 : Bool) (y5 : Int) (y6 : Int) (w : World) (hside : True) : Calls Try.prog 11 #[(SV.agg [.v (.int .i64 x1), .v (.int .i64 x2), .v (.int .i64 x3), .v (.bool x4), .v (.int .i64 x5), .v (.int .i64 x6)]).den, (SV.agg [.v (.int .i64 y1), .v (.int .i64 y2), .v (.int .i64 y3), .v (.bool y4), .v (.int .i64 y5), .v (.int .i64 y6)]).den] w fun e w' => e = .returned (r_goesL (⟨x1, x2, x3, x4, x5, x6⟩ : Ar) (⟨y1, y2, y3, y4, y5, y6⟩ : Ar)).den ∧ Below w.heap.size w w' := by
  obtain ⟨κ, hκ⟩ : ∃ κ : Kp, κ = kid := ⟨_, rfl⟩
  refine pureE FTok [e_join hκ, e_refF hκ, e_refAttr hκ, e_after hκ, e_awake6 hκ, e_goes hκ] mixed [] Try.func11 rfl (by kernel_rfl) _ [(0, .agg [.v (.int .i64 x1), .v (.int .i64 x2), .v (.int .i64 x3), .v (.bool x4), .v (.int .i64 x5), .v (.int .i64 x6)]), (1, .agg [.v (.int .i64 y1), .v (.int .i64 y2), .v (.int .i64 y3), .v (.bool y4), .v (.int .i64 y5), .v (.int .i64 y6)])] _ w 139 rfl [.tmp 4] rfl (by simp) (by simp [SV.den, C.den]) hκ ?_
  cbv
  repeat' (first | refine And.intro ?_ ?_ | (intro _; cbv) | (refine tst_mk (fun h => ?_) (fun h => ?_) <;> cbv))
  all_goals (try (refine loopK FTok [e_join hκ, e_refF hκ, e_refAttr hκ, e_after hκ, e_awake6 hκ, e_goes hκ] mixed [2, 3, 5] [2, 3, 5] (σ := Nat) (fun s => [(12, .c (.v (.int .i64 (κ _ (pG ⟨x1, x2, x3, x4, x5, x6⟩ s)))))]) (fun _ => []) (fun s => 512 - s) 0 [2, 3, 5] ?_ (by decide) ?_ hκ ?_))
  all_goals (try (intro s))
  all_goals (try cbv)
  all_goals (repeat' (first | refine And.intro ?_ ?_ | (intro _; cbv) | (refine tst_mk (fun h => ?_) (fun h => ?_) <;> cbv)))
  all_goals (try (refine ⟨⟨s + 1, [2, 3, 5], ?_, by decide, ?_, ?_⟩⟩))
  all_goals (try (show FitsE _ _; cbv))
  all_goals (try (show FitsH _ _ _; cbv))

  all_goals subst hκ
  all_goals (try delta kid at *)
  all_goals (try (exact ⟨trivial⟩))
  all_goals (try (exact ⟨by decide⟩))
  all_goals (try (exact trivial))
  all_goals (try (refine ⟨?_⟩))
  all_goals (try simp only [refAttr_eta, joinA_eta, refF_eq] at *)
  all_goals (have gr : goesA ⟨x1, x2, x3, x4, x5, x6⟩ ⟨y1, y2, y3, y4, y5, y6⟩ = (formed ⟨x1, x2, x3, x4, x5, x6⟩ && formed ⟨y1, y2, y3, y4, y5, y6⟩ && (x2 == y1) && afterA (refAttr ⟨x1, x2, x3, x4, x5, x6⟩ (IntKind.i64.wrap (IntKind.i64.wrap (Int.tdiv x2 4096) - 1))) (refAttr ⟨y1, y2, y3, y4, y5, y6⟩ (IntKind.i64.wrap (Int.tdiv y1 4096)))) := goes_ref _ _)
  all_goals (have je := joins_eq ⟨x1, x2, x3, x4, x5, x6⟩ ⟨y1, y2, y3, y4, y5, y6⟩)
  all_goals (rcases Bool.eq_false_or_eq_true (goesA ⟨x1, x2, x3, x4, x5, x6⟩ ⟨y1, y2, y3, y4, y5, y6⟩) with hg | hg)
  all_goals (rw [hg] at gr je; replace gr := gr.symm)
  all_goals (try (simp_all [-Ar.eta, -At.eta, r_goesL, SV.den, C.den, noAr]; done))
  all_goals (try (have hjn := join_no hg; simp_all [-Ar.eta, -At.eta, r_goesL, SV.den, C.den, noAr]; done))
  all_goals (try (have hji := joins_goes hg; simp_all [-Ar.eta, -At.eta, r_goesL, SV.den, C.den, noAr]; done))
  all_goals (try (have hlt := of_decide_eq_true ‹decide (pG ⟨x1, x2, x3, x4, x5, x6⟩ s < IntKind.i64.wrap (Int.tdiv y2 4096)) = true›; have g4 := goes_loop hg s hlt; have j4 := join_pages hg g4.2.2.1 g4.2.2.2; simp only [w64] at g4; first | omega | (have q2 := j4.2.2 (by assumption); rw [q2] at h; simp at h; done) | (simp_all [-Ar.eta, -At.eta, r_goesL, SV.den, C.den]; done)))
  all_goals (try (have hi := goes_init hg; simp_all [-Ar.eta, -At.eta, r_goesL, SV.den, C.den]; done))
def e_goesL {κ : Kp} (hκ : κ = kid) : ESpec Try.prog := pureES b_goesL F_goesL hκ fun args H s v w0 M w H' hF hs _ _ => by
  unfold F_goesL at hF
  split at hF
  · rename_i x1 x2 x3 x4 x5 x6 y1 y2 y3 y4 y5 y6
    injection hF with hF
    injection hF with h1 h2
    subst h1 h2
    exact k_goesL x1 x2 x3 x4 x5 x6 y1 y2 y3 y4 y5 y6 w hs
  · cases hF

end Go.Proofs.Ytjlgeoaomegbmaa.Eng
