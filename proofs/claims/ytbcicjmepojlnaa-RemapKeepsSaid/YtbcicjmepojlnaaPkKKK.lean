/- Texts of this work, laid together: symbolic execution over the model, contracts of the program's functions, what they come to; conditions: as each says. -/
import Derived.Test.YtbcicjmepojlnaaPkKHF
import Derived.Test.YtbcicjmepojlnaaPkKHG
import Derived.Test.YtbcicjmepojlnaaPkKHH
import Derived.Test.YtbcicjmepojlnaaPkKKC
import Derived.Test.YtbcicjmepojlnaaPkKKD
import Derived.Test.YtbcicjmepojlnaaPkKKE
import Derived.Test.YtbcicjmepojlnaaPkKKF
/- Contracts of functions of lists that hand back new ones (printed by genr.py of this work); condition: as its 'hside' says. -/
namespace Go.Proofs.Ytbcicjmepojlnaa.Eng
open Go Go.RowKit
set_option linter.unusedVariables false
set_option linter.unusedSimpArgs false
theorem b_put : Bodied Try.prog 61 := bodied Try.func61 rfl (by decide)
def F_put : FunR := fun κ l rest => match rest with
  | [.agg [.v (.int .i64 a1), .v (.int .i64 a2), .v (.int .i64 a3), .v (.bool a4), .v (.int .i64 a5), .v (.int .i64 a6)]] => some (κ _ (l.length ≤ 300000), κ _ (putL l (⟨a1, a2, a3, a4, a5, a6⟩ : Ar)))
  | _ => none
set_option maxRecDepth 100000 in
set_option maxHeartbeats 8000000 in
theorem k_put (l : List Ar) (a1 : Int) (a2 : Int) (a3 : Int) (a4 : Bool) (a5 : Int) (a6 : Int) (hside : l.length ≤ 300000) (A : Option Addr) (c : Nat) (w : World) (hr : (Ent.rd A 6 l.length (encL l)).holds w) :
    Calls Try.prog 61 #[.slice A l.length c, (SV.agg [.v (.int .i64 a1), .v (.int .i64 a2), .v (.int .i64 a3), .v (.bool a4), .v (.int .i64 a5), .v (.int .i64 a6)]).den] w fun e w' => ∃ v H', e = .returned v.den ∧ IsR (putL l (⟨a1, a2, a3, a4, a5, a6⟩ : Ar)) v H' ∧ HSat w (fun _ => False) H' w' := by
  obtain ⟨κ, hκ⟩ : ∃ κ : Kp, κ = kid := ⟨_, rfl⟩
  have hH : HSat w (fun _ => False) (heapOf [(nilId, .rd none 1 0 []), (200000, .rd A 6 (κ _ l.length) (κ _ (encL l)))]) w := by
    subst hκ
    refine HSat.reads fun p hp => ?_
    simp only [List.mem_cons, List.not_mem_nil, or_false] at hp
    rcases hp with rfl | rfl
    · exact ⟨_, _, _, _, rfl, nil_holds w⟩
    · exact ⟨_, _, _, _, rfl, hr⟩
  refine (callsE (n := 31) FTok [e_right hκ, e_formed hκ, e_around hκ, e_concat hκ, e_joined hκ] mixed [] Try.func61 rfl (by kernel_rfl) #[.slice A l.length c, (SV.agg [.v (.int .i64 a1), .v (.int .i64 a2), .v (.int .i64 a3), .v (.bool a4), .v (.int .i64 a5), .v (.int .i64 a6)]).den] [(0, .c (.sl 200000 A (κ _ l.length) c)), (1, .agg [.v (.int .i64 a1), .v (.int .i64 a2), .v (.int .i64 a3), .v (.bool a4), .v (.int .i64 a5), .v (.int .i64 a6)])] _ w rfl [.tmp 4] rfl (by simp) (by subst hκ; simp [SV.den, C.den, kid]) hH (fun v H' => IsR (κ _ (putL l (⟨a1, a2, a3, a4, a5, a6⟩ : Ar))) v H') hκ ?_).mono ?_
  rotate_left
  · subst hκ; intro e w' h; exact h
  cbv
  repeat' (first | refine And.intro ?_ ?_ | (intro _; cbv) | (refine tst_mk (fun h => ?_) (fun h => ?_) <;> cbv) | (refine LookX.nil ?_; cbv) | (refine LookX.auto hκ ?_; cbv) | (refine LookX.mk' (one_cells a1 a2 a3 a4 a5 a6) ?_; cbv))
  all_goals (try (clear hH))
  all_goals subst hκ
  all_goals (try delta kid at *)
  all_goals (try dsimp only at *)
  all_goals (try (exact ⟨trivial⟩))
  all_goals (try (exact ⟨by decide⟩))
  all_goals (try (exact ⟨rfl⟩))
  all_goals (try (refine ⟨?_⟩; have q1 := ahead_le l (floorA a1); have q2 := behind_le l (toI a2); have q3 := within_le l a1 a2; (try simp only [List.length_append, List.length_cons, List.length_nil, List.length_map, and_self, true_or, or_true, eq_self, true_and, and_true, Nat.zero_add, Nat.add_zero]); (first | done | omega); done))
  all_goals (first | exact IsR.nil_ (put_no (l := l) (a := ⟨a1, a2, a3, a4, a5, a6⟩) (by with_reducible assumption)) | exact IsR.nil_ (put_no2 (l := l) (a := ⟨a1, a2, a3, a4, a5, a6⟩) (by with_reducible assumption)) | exact IsR.row_ (put_all (l := l) (a := ⟨a1, a2, a3, a4, a5, a6⟩) (by with_reducible assumption) (by with_reducible assumption) (by with_reducible assumption)) rfl | exact IsR.row_ (put_some (l := l) (a := ⟨a1, a2, a3, a4, a5, a6⟩) (by with_reducible assumption) (by with_reducible assumption) (by with_reducible assumption)) rfl)
def e_put {κ : Kp} (hκ : κ = kid) : ESpec Try.prog := lisRES b_put F_put hκ fun l rest p r hF hp A c w hr => by
  unfold F_put at hF
  split at hF
  · rename_i a1 a2 a3 a4 a5 a6
    simp only [kid, Option.some.injEq, Prod.mk.injEq] at hF
    obtain ⟨rfl, rfl⟩ := hF
    exact k_put l a1 a2 a3 a4 a5 a6 hp A c w hr
  · cases hF
end Go.Proofs.Ytbcicjmepojlnaa.Eng
/- What lists that are not right tell; no condition. -/
namespace Go.Proofs.Ytbcicjmepojlnaa.Eng
open Go Go.RowKit
set_option autoImplicit false
set_option linter.unusedSimpArgs false
set_option linter.unusedVariables false
theorem sameL_self (l : List Ar) : sameL l l = true := (sameL_iff l l).2 rfl
end Go.Proofs.Ytbcicjmepojlnaa.Eng
/- Contracts of functions (printed by genx.py of this work): what each hands back; condition: as its 'hside' says. -/
namespace Go.Proofs.Ytbcicjmepojlnaa.Eng
open Go Go.RowKit
set_option linter.unusedVariables false
set_option linter.unusedSimpArgs false
end Go.Proofs.Ytbcicjmepojlnaa.Eng
