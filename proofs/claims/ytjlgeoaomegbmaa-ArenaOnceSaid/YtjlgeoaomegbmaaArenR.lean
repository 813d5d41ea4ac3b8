/- Contracts of methods of arenas (printed by genar.py of this work): what each hands back, and turns; condition: as its 'hside' says. -/
import Derived.Test.YtjlgeoaomegbmaaAren0
namespace Go.Proofs.Ytjlgeoaomegbmaa.Eng
open Go Go.RowKit
set_option linter.unusedVariables false
set_option linter.unusedSimpArgs false

theorem b_handleR : Bodied Try.prog 64 := bodied Try.func64 rfl (by decide)
def r_handleR (fi : Int) (l : List St) (s d : Bool) (slot : Int) : SV := .c (.v (.int .i64 (handleR l slot)))
def F_handleR : Fun02 := fun κ fi l s d rest => match rest with
  | [.c (.v (.int .i64 slot))] => some (κ _ (hasSl l.length slot = true), .c (.v (.int .i64 (κ _ (handleR l slot)))), none)
  | _ => none
set_option maxRecDepth 100000 in
set_option maxHeartbeats 4000000 in
theorem k_handleR (fi : Int) (l : List St) (s d : Bool) (slot : Int) (hside : hasSl l.length slot = true) (hl : l.length ≤ 1000) (b : Nat) (A : Option Addr) (c : Nat) (B : Option Addr) (ce : Nat) (w : World) (hH : HSat w (mutE (ER kid b fi l s d A c B ce)) (heapOf (ER kid b fi l s d A c B ce)) w) :
    Calls Try.prog 64 #[.pointer (some ⟨b, 0, none⟩), .int .i64 slot] w fun e w' => ∃ v H', e = .returned v.den ∧ IsR (r_handleR fi l s d slot).den (some (blkR b fi 200001 200002 A l.length c B l.length ce (s) (d))) (some (.row A c 2 1 l.length (encG (l)))) (some (.row B ce 4 1 l.length (encV (l)))) v (H' 200000) (H' 200001) (H' 200002) ∧ HSat w (mutE (ER kid b fi l s d A c B ce)) H' w' := by
  obtain ⟨κ, hκ⟩ : ∃ κ : Kp, κ = kid := ⟨_, rfl⟩
  have hH' : HSat w (mutE (ER kid b fi l s d A c B ce)) (heapOf (ER κ b fi l s d A c B ce)) w := by subst hκ; exact hH
  refine (callsE (n := 16) FTok [] mixed [] Try.func64 rfl (by kernel_rfl) #[.pointer (some ⟨b, 0, none⟩), .int .i64 slot] [(0, .c (.loc 200000 b 0)), (1, .c (.v (.int .i64 slot)))] _ w rfl [.tmp 4] rfl (by simp) (by simp [SV.den, C.den]) hH' (fun v H' => IsR (κ _ (r_handleR fi l s d slot).den) (κ _ (some (blkR b fi 200001 200002 A l.length c B l.length ce (s) (d)))) (κ _ (some (.row A c 2 1 l.length (encG (l))))) (κ _ (some (.row B ce 4 1 l.length (encV (l))))) v (H' 200000) (H' 200001) (H' 200002)) hκ ?_).mono ?_
  rotate_left
  · subst hκ; intro e w' h; exact h
  cbv
  repeat' (first | refine And.intro ?_ ?_ | (intro _; cbv) | (refine tst_mk (fun h => ?_) (fun h => ?_) <;> cbv) | (refine LookR.mk' (x := .v (.int .i64 (κ _ (gAt l slot)))) (by subst hκ; delta kid at *; exact sr_g (by assumption) hl) ?_; cbv))
  all_goals subst hκ
  all_goals (try delta kid at *)
  all_goals (try (exact ⟨trivial⟩))
  all_goals (try (exact ⟨by decide⟩))
  all_goals (try (exact ⟨⟨rfl, rfl, rfl, rfl⟩⟩))
  all_goals (try (exact ⟨⟨rfl, rfl, rfl, rfl, rfl, rfl, rfl⟩⟩))
  all_goals (try (exact ⟨⟨rfl, hl⟩⟩))
  all_goals (try (exact ⟨⟨rfl, rfl, hl⟩⟩))
  all_goals (try (exact ⟨rfl⟩))
  all_goals (try (exact ⟨‹_›⟩))
  all_goals (try (exact ⟨st_ix (by assumption) hl 1 (by decide)⟩))
  all_goals exact ⟨⟨rfl, rfl, rfl, rfl⟩⟩
def e_handleR {κ : Kp} (hκ : κ = kid) : ESpec Try.prog := rarES b_handleR F_handleR false (fun _ fi l s d rest p v o hF => by unfold F_handleR at hF; split at hF <;> first | (injection hF with hF; injection hF with _ hF; injection hF with _ hF; exact hF.symm) | cases hF) hκ fun fi l s d rest p v o hF hp hl b A c B ce w hH => by
  unfold F_handleR at hF
  split at hF
  · rename_i slot
    simp only [kid, Option.some.injEq, Prod.mk.injEq] at hF
    obtain ⟨rfl, rfl, rfl⟩ := hF
    exact (k_handleR fi l s d slot hp hl b A c B ce w hH).mono fun e w' ⟨v, H', he, ⟨hr⟩, hh⟩ => ⟨H', by rw [he, hr.1]; rfl, hh, hr.2.1, hr.2.2.1, hr.2.2.2⟩
  · cases hF

theorem b_cellR : Bodied Try.prog 42 := bodied Try.func42 rfl (by decide)
def r_cellR (fi : Int) (l : List St) (s d : Bool) (h0 : Int) (word : Int) : SV := .c (.v (.int .i64 (cellR fi l h0 word)))
def F_cellR : Fun02 := fun κ fi l s d rest => match rest with
  | [.c (.v (.int .i64 h0)), .c (.v (.int .i64 word))] => some (κ _ (True), .c (.v (.int .i64 (κ _ (cellR fi l h0 word)))), none)
  | _ => none
set_option maxRecDepth 100000 in
set_option maxHeartbeats 4000000 in
theorem k_cellR (fi : Int) (l : List St) (s d : Bool) (h0 : Int) (word : Int) (hside : True) (hl : l.length ≤ 1000) (b : Nat) (A : Option Addr) (c : Nat) (B : Option Addr) (ce : Nat) (w : World) (hH : HSat w (mutE (ER kid b fi l s d A c B ce)) (heapOf (ER kid b fi l s d A c B ce)) w) :
    Calls Try.prog 42 #[.pointer (some ⟨b, 0, none⟩), .int .i64 h0, .int .i64 word] w fun e w' => ∃ v H', e = .returned v.den ∧ IsR (r_cellR fi l s d h0 word).den (some (blkR b fi 200001 200002 A l.length c B l.length ce (s) (d))) (some (.row A c 2 1 l.length (encG (l)))) (some (.row B ce 4 1 l.length (encV (l)))) v (H' 200000) (H' 200001) (H' 200002) ∧ HSat w (mutE (ER kid b fi l s d A c B ce)) H' w' := by
  obtain ⟨κ, hκ⟩ : ∃ κ : Kp, κ = kid := ⟨_, rfl⟩
  have hH' : HSat w (mutE (ER kid b fi l s d A c B ce)) (heapOf (ER κ b fi l s d A c B ce)) w := by subst hκ; exact hH
  refine (callsE (n := 39) FTok [e_slotR hκ] mixed [] Try.func42 rfl (by kernel_rfl) #[.pointer (some ⟨b, 0, none⟩), .int .i64 h0, .int .i64 word] [(0, .c (.loc 200000 b 0)), (1, .c (.v (.int .i64 h0))), (2, .c (.v (.int .i64 word)))] _ w rfl [.tmp 6] rfl (by simp) (by simp [SV.den, C.den]) hH' (fun v H' => IsR (κ _ (r_cellR fi l s d h0 word).den) (κ _ (some (blkR b fi 200001 200002 A l.length c B l.length ce (s) (d)))) (κ _ (some (.row A c 2 1 l.length (encG (l))))) (κ _ (some (.row B ce 4 1 l.length (encV (l))))) v (H' 200000) (H' 200001) (H' 200002)) hκ ?_).mono ?_
  rotate_left
  · subst hκ; intro e w' h; exact h
  cbv
  repeat' (first | refine And.intro ?_ ?_ | (intro _; cbv) | (refine tst_mk (fun h => ?_) (fun h => ?_) <;> cbv))
  all_goals subst hκ
  all_goals (try delta kid at *)
  all_goals (try (exact ⟨trivial⟩))
  all_goals (try (exact ⟨by decide⟩))
  all_goals (try (exact ⟨⟨rfl, rfl, rfl, rfl⟩⟩))
  all_goals (try (exact ⟨⟨rfl, rfl, rfl, rfl, rfl, rfl, rfl⟩⟩))
  all_goals (try (exact ⟨⟨rfl, hl⟩⟩))
  all_goals (try (exact ⟨⟨rfl, rfl, hl⟩⟩))
  all_goals (try (exact ⟨rfl⟩))
  all_goals (try (exact ⟨‹_›⟩))
  all_goals refine ⟨⟨?_, rfl, rfl, rfl⟩⟩
  all_goals simp only [r_cellR, SV.den, C.den, cellR, GT.gt, GE.ge]
  all_goals (try simp only [*, Bool.not_true, Bool.not_false, Bool.or_true, Bool.true_or, Bool.or_false, Bool.false_or, if_true, if_false, Bool.false_eq_true])
  all_goals (try rfl)
  all_goals (try (simp_all; done))
  all_goals trace_state
  all_goals sorry
def e_cellR {κ : Kp} (hκ : κ = kid) : ESpec Try.prog := rarES b_cellR F_cellR false (fun _ fi l s d rest p v o hF => by unfold F_cellR at hF; split at hF <;> first | (injection hF with hF; injection hF with _ hF; injection hF with _ hF; exact hF.symm) | cases hF) hκ fun fi l s d rest p v o hF hp hl b A c B ce w hH => by
  unfold F_cellR at hF
  split at hF
  · rename_i h0 word
    simp only [kid, Option.some.injEq, Prod.mk.injEq] at hF
    obtain ⟨rfl, rfl, rfl⟩ := hF
    exact (k_cellR fi l s d h0 word hp hl b A c B ce w hH).mono fun e w' ⟨v, H', he, ⟨hr⟩, hh⟩ => ⟨H', by rw [he, hr.1]; rfl, hh, hr.2.1, hr.2.2.1, hr.2.2.2⟩
  · cases hF

end Go.Proofs.Ytjlgeoaomegbmaa.Eng
