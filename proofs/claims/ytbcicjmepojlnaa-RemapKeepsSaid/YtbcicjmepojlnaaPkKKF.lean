/- Texts of this work, laid together: symbolic execution over the model, contracts of the program's functions, what they come to; conditions: as each says. -/
import Derived.Test.YtbcicjmepojlnaaPkKKC
import Derived.Test.YtbcicjmepojlnaaPkKKD
/- Contracts of functions (printed by genx.py of this work): what each hands back; condition: as its 'hside' says. -/
namespace Go.Proofs.Ytbcicjmepojlnaa.Eng
open Go Go.RowKit
set_option linter.unusedVariables false
set_option linter.unusedSimpArgs false
end Go.Proofs.Ytbcicjmepojlnaa.Eng
/- Contracts of functions of lists that hand back new ones (printed by genr.py of this work); condition: as its 'hside' says. -/
namespace Go.Proofs.Ytbcicjmepojlnaa.Eng
open Go Go.RowKit
set_option linter.unusedVariables false
set_option linter.unusedSimpArgs false
theorem b_cut : Bodied Try.prog 62 := bodied Try.func62 rfl (by decide)
def F_cut : FunR := fun κ l rest => match rest with
  | [.c (.v (.int .i64 lo)), .c (.v (.int .i64 hi))] => some (κ _ (l.length ≤ 300000), κ _ (cutL l lo hi))
  | _ => none
set_option maxRecDepth 100000 in
set_option maxHeartbeats 8000000 in
theorem k_cut (l : List Ar) (lo : Int) (hi : Int) (hside : l.length ≤ 300000) (A : Option Addr) (c : Nat) (w : World) (hr : (Ent.rd A 6 l.length (encL l)).holds w) :
    Calls Try.prog 62 #[.slice A l.length c, (SV.c (.v (.int .i64 lo))).den, (SV.c (.v (.int .i64 hi))).den] w fun e w' => ∃ v H', e = .returned v.den ∧ IsR (cutL l lo hi) v H' ∧ HSat w (fun _ => False) H' w' := by
  obtain ⟨κ, hκ⟩ : ∃ κ : Kp, κ = kid := ⟨_, rfl⟩
  have hH : HSat w (fun _ => False) (heapOf [(nilId, .rd none 1 0 []), (200000, .rd A 6 (κ _ l.length) (κ _ (encL l)))]) w := by
    subst hκ
    refine HSat.reads fun p hp => ?_
    simp only [List.mem_cons, List.not_mem_nil, or_false] at hp
    rcases hp with rfl | rfl
    · exact ⟨_, _, _, _, rfl, nil_holds w⟩
    · exact ⟨_, _, _, _, rfl, hr⟩
  refine (callsE (n := 23) FTok [e_right hκ, e_around hκ, e_concat hκ] mixed [] Try.func62 rfl (by kernel_rfl) #[.slice A l.length c, (SV.c (.v (.int .i64 lo))).den, (SV.c (.v (.int .i64 hi))).den] [(0, .c (.sl 200000 A (κ _ l.length) c)), (1, .c (.v (.int .i64 lo))), (2, .c (.v (.int .i64 hi)))] _ w rfl [.tmp 6] rfl (by simp) (by subst hκ; simp [SV.den, C.den, kid]) hH (fun v H' => IsR (κ _ (cutL l lo hi)) v H') hκ ?_).mono ?_
  rotate_left
  · subst hκ; intro e w' h; exact h
  cbv
  repeat' (first | refine And.intro ?_ ?_ | (intro _; cbv) | (refine tst_mk (fun h => ?_) (fun h => ?_) <;> cbv) | (refine LookX.nil ?_; cbv) | (refine LookX.auto hκ ?_; cbv))
  all_goals (try (clear hH))
  all_goals subst hκ
  all_goals (try delta kid at *)
  all_goals (try dsimp only at *)
  all_goals (try (exact ⟨trivial⟩))
  all_goals (try (exact ⟨by decide⟩))
  all_goals (try (exact ⟨rfl⟩))
  all_goals (try (refine ⟨?_⟩; have q1 := ahead_le l (floorA lo); have q2 := behind_le l (toI hi); have q3 := within_le l lo hi; (repeat' (first | exact rfl | refine And.intro ?_ ?_ | exact Or.inl rfl | exact Or.inr rfl | assumption | omega | (simp only [List.length_append, List.length_cons, List.length_nil]; omega))); done))
  all_goals (first | exact IsR.nil_ (cut_no (by assumption)) | exact IsR.row_ (cut_all (by assumption) (by assumption)) rfl | exact IsR.row_ (cut_some (by assumption) (by assumption)) rfl)
def e_cut {κ : Kp} (hκ : κ = kid) : ESpec Try.prog := lisRES b_cut F_cut hκ fun l rest p r hF hp A c w hr => by
  unfold F_cut at hF
  split at hF
  · rename_i lo hi
    simp only [kid, Option.some.injEq, Prod.mk.injEq] at hF
    obtain ⟨rfl, rfl⟩ := hF
    exact k_cut l lo hi hp A c w hr
  · cases hF
theorem b_within2 : Bodied Try.prog 68 := bodied Try.func68 rfl (by decide)
def F_within2 : FunR := fun κ l rest => match rest with
  | [.c (.v (.int .i64 lo)), .c (.v (.int .i64 hi))] => some (κ _ (l.length ≤ 1000000), κ _ (within2L l lo hi))
  | _ => none
set_option maxRecDepth 100000 in
set_option maxHeartbeats 8000000 in
theorem k_within2 (l : List Ar) (lo : Int) (hi : Int) (hside : l.length ≤ 1000000) (A : Option Addr) (c : Nat) (w : World) (hr : (Ent.rd A 6 l.length (encL l)).holds w) :
    Calls Try.prog 68 #[.slice A l.length c, (SV.c (.v (.int .i64 lo))).den, (SV.c (.v (.int .i64 hi))).den] w fun e w' => ∃ v H', e = .returned v.den ∧ IsR (within2L l lo hi) v H' ∧ HSat w (fun _ => False) H' w' := by
  obtain ⟨κ, hκ⟩ : ∃ κ : Kp, κ = kid := ⟨_, rfl⟩
  have hH : HSat w (fun _ => False) (heapOf [(nilId, .rd none 1 0 []), (200000, .rd A 6 (κ _ l.length) (κ _ (encL l)))]) w := by
    subst hκ
    refine HSat.reads fun p hp => ?_
    simp only [List.mem_cons, List.not_mem_nil, or_false] at hp
    rcases hp with rfl | rfl
    · exact ⟨_, _, _, _, rfl, nil_holds w⟩
    · exact ⟨_, _, _, _, rfl, hr⟩
  refine (callsE (n := 19) FTok [e_right hκ, e_within hκ] mixed [] Try.func68 rfl (by kernel_rfl) #[.slice A l.length c, (SV.c (.v (.int .i64 lo))).den, (SV.c (.v (.int .i64 hi))).den] [(0, .c (.sl 200000 A (κ _ l.length) c)), (1, .c (.v (.int .i64 lo))), (2, .c (.v (.int .i64 hi)))] _ w rfl [.tmp 6] rfl (by simp) (by subst hκ; simp [SV.den, C.den, kid]) hH (fun v H' => IsR (κ _ (within2L l lo hi)) v H') hκ ?_).mono ?_
  rotate_left
  · subst hκ; intro e w' h; exact h
  cbv
  repeat' (first | refine And.intro ?_ ?_ | (intro _; cbv) | (refine tst_mk (fun h => ?_) (fun h => ?_) <;> cbv) | (refine LookX.nil ?_; cbv) | (refine LookX.auto hκ ?_; cbv))
  all_goals (try (clear hH))
  all_goals subst hκ
  all_goals (try delta kid at *)
  all_goals (try dsimp only at *)
  all_goals (try (exact ⟨trivial⟩))
  all_goals (try (exact ⟨by decide⟩))
  all_goals (try (exact ⟨rfl⟩))
  all_goals (try (refine ⟨?_⟩; have q1 := ahead_le l (floorA lo); have q2 := behind_le l (toI hi); have q3 := within_le l lo hi; (repeat' (first | exact rfl | refine And.intro ?_ ?_ | exact Or.inl rfl | exact Or.inr rfl | assumption | omega | (simp only [List.length_append, List.length_cons, List.length_nil]; omega))); done))
  all_goals (first | exact IsR.nil_ (within2_no (by assumption)) | exact IsR.nil_ (within2_no2 (by assumption)) | exact IsR.row_ (within2_yes (by assumption) (by assumption)) rfl)
def e_within2 {κ : Kp} (hκ : κ = kid) : ESpec Try.prog := lisRES b_within2 F_within2 hκ fun l rest p r hF hp A c w hr => by
  unfold F_within2 at hF
  split at hF
  · rename_i lo hi
    simp only [kid, Option.some.injEq, Prod.mk.injEq] at hF
    obtain ⟨rfl, rfl⟩ := hF
    exact k_within2 l lo hi hp A c w hr
  · cases hF
end Go.Proofs.Ytbcicjmepojlnaa.Eng
