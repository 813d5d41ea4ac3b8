/- Texts of this work, laid together: symbolic execution over the model, contracts of the program's functions, what they come to; conditions: as each says. -/
import Derived.Test.YtbcicjmepojlnaaPkKHE
/- Contracts of functions of lists (printed by genl.py of this work): what each hands back; condition: as its 'hside' says. -/
namespace Go.Proofs.Ytbcicjmepojlnaa.Eng
open Go Go.RowKit
set_option linter.unusedVariables false
set_option linter.unusedSimpArgs false
theorem b_find : Bodied Try.prog 66 := bodied Try.func66 rfl (by decide)
def r_find (l : List Ar) (x : Int) : SV := .tup [.agg [.v (.int .i64 ((findL l x).s)), .v (.int .i64 ((findL l x).e)), .v (.int .i64 ((findL l x).p)), .v (.bool ((findL l x).sh)), .v (.int .i64 ((findL l x).b)), .v (.int .i64 ((findL l x).o))], .c (.v (.bool (foundL l x)))]
def F_find : FunL := fun κ l rest => match rest with
  | [.c (.v (.int .i64 x))] => some (κ _ (l.length ≤ 1000000), .tup [.agg [.v (.int .i64 (κ _ ((findL l x).s))), .v (.int .i64 (κ _ ((findL l x).e))), .v (.int .i64 (κ _ ((findL l x).p))), .v (.bool (κ _ ((findL l x).sh))), .v (.int .i64 (κ _ ((findL l x).b))), .v (.int .i64 (κ _ ((findL l x).o)))], .c (.v (.bool (κ _ (foundL l x))))])
  | _ => none
set_option maxRecDepth 100000 in
set_option maxHeartbeats 4000000 in
theorem k_find (l : List Ar) (x : Int) (hside : l.length ≤ 1000000) (A : Option Addr) (c : Nat) (w : World) (hr : (Ent.rd A 6 l.length (encL l)).holds w) :
    Calls Try.prog 66 #[.slice A l.length c, (SV.c (.v (.int .i64 x))).den] w fun e w' => e = .returned (r_find l x).den ∧ Below w.heap.size w w' := by
  obtain ⟨κ, hκ⟩ : ∃ κ : Kp, κ = kid := ⟨_, rfl⟩
  have hH : HSat w (fun _ => False) (heapOf [(nilId, .rd none 1 0 []), (200000, .rd A 6 (κ _ l.length) (κ _ (encL l)))]) w := by
    subst hκ
    refine HSat.reads fun p hp => ?_
    simp only [List.mem_cons, List.not_mem_nil, or_false] at hp
    rcases hp with rfl | rfl
    · exact ⟨_, _, _, _, rfl, nil_holds w⟩
    · exact ⟨_, _, _, _, rfl, hr⟩
  refine (callsE (n := 21) FTok [e_index hκ, e_right hκ] mixed [] Try.func66 rfl (by kernel_rfl) #[.slice A l.length c, (SV.c (.v (.int .i64 x))).den] [(0, .c (.sl 200000 A (κ _ l.length) c)), (1, .c (.v (.int .i64 x)))] _ w rfl [.cell 4 53, .tmp 5] rfl (by simp) (by subst hκ; simp [SV.den, C.den, kid]) hH (fun v _ => Is (κ _ (r_find l x).den) v) hκ ?_).mono ?_
  rotate_left
  · subst hκ
    rintro e w' ⟨v, H', rfl, ⟨hv⟩, hH'⟩
    exact ⟨by rw [hv]; rfl, hH'.isBelow⟩
  cbv
  repeat' (first | refine And.intro ?_ ?_ | (intro _; cbv) | (refine tst_mk (fun h => ?_) (fun h => ?_) <;> cbv) | ((refine LookN.mk' (x := [.v (.int .i64 (κ _ (nthA l (idxL l x)).s)), .v (.int .i64 (κ _ (nthA l (idxL l x)).e)), .v (.int .i64 (κ _ (nthA l (idxL l x)).p)), .v (.bool (κ _ (nthA l (idxL l x)).sh)), .v (.int .i64 (κ _ (nthA l (idxL l x)).b)), .v (.int .i64 (κ _ (nthA l (idxL l x)).o))]) (by subst hκ; delta kid at *; exact idx_take (by assumption)) ?_; cbv); cbv) | ((refine LookX.auto hκ ?_; cbv); cbv))
  all_goals subst hκ
  all_goals (try delta kid at *)
  all_goals (try dsimp only at *)
  all_goals (try (exact ⟨trivial⟩))
  all_goals (try (exact ⟨by decide⟩))
  all_goals (try (exact ⟨rfl⟩))
  all_goals (try (exact ⟨⟨rfl, rfl, .inl rfl⟩⟩))
  all_goals (try (exact ⟨‹_›⟩))
  all_goals (try (exact ⟨idx_ix (by assumption)⟩))
  all_goals (try (exact ⟨⟨rfl, hside⟩⟩))
  all_goals (try (exact ⟨⟨rfl, rfl, rfl, .inl rfl⟩⟩))
  all_goals (refine ⟨?_⟩)
  all_goals simp only [r_find, findL, foundL, SV.den, SV.den0, C.den, GE.ge, List.map_cons, List.map_nil]
  all_goals try (simp only [*, Bool.and_true, Bool.true_and, Bool.and_false, Bool.false_and, if_true, if_false, Bool.false_eq_true, noAr])
  all_goals (try rfl)
def e_find {κ : Kp} (hκ : κ = kid) : ESpec Try.prog := lisES b_find F_find hκ fun l rest p v hF hp A c w hr => by
  unfold F_find at hF
  split at hF
  · rename_i x
    simp only [kid, Option.some.injEq, Prod.mk.injEq] at hF
    obtain ⟨rfl, rfl⟩ := hF
    exact k_find l x hp A c w hr
  · cases hF
end Go.Proofs.Ytbcicjmepojlnaa.Eng
