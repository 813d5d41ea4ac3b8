/- Contracts of methods of arenas (printed by genar.py of this work): what each hands back, and turns; condition: as its 'hside' says. -/
import Derived.Test.YtjlgeoaomegbmaaAren0
import Derived.Test.YtjlgeoaomegbmaaArena4
namespace Go.Proofs.Ytjlgeoaomegbmaa.Eng
open Go Go.RowKit
set_option linter.unusedVariables false
set_option linter.unusedSimpArgs false

theorem b_handleR : Bodied Try.prog 64 := bodied Try.func64 rfl (by decide)
def r_handleR (fi : Int) (l : List St) (s d : Bool) (slot : Int) : SV := .c (.v (.int .i64 (handleR l slot)))
def F_handleR : Fun02 := fun κ fi l s d rest => match rest with
  | [.c (.v (.int .i64 slot))] => some (κ _ (hasSl l.length slot = true), .c (.v (.int .i64 (κ _ (handleR l slot)))), none)
  | _ => none
set_option maxRecDepth 100000 in
set_option maxHeartbeats 4000000 in
theorem k_handleR (fi : Int) (l : List St) (s d : Bool) (slot : Int) (hside : hasSl l.length slot = true) (hl : l.length ≤ 1000) (b : Nat) (A : Option Addr) (c : Nat) (B : Option Addr) (ce : Nat) (w : World) (hH : HSat w (mutE (ER kid b fi l s d A c B ce)) (heapOf (ER kid b fi l s d A c B ce)) w) :
    Calls Try.prog 64 #[.pointer (some ⟨b, 0, none⟩), .int .i64 slot] w fun e w' => ∃ v H', e = .returned v.den ∧ IsR (r_handleR fi l s d slot).den (some (blkR b fi 200001 200002 A l.length c B l.length ce (s) (d))) (some (.row A c 2 1 l.length (encG (l)))) (some (.row B ce 4 1 l.length (encV (l)))) v (H' 200000) (H' 200001) (H' 200002) ∧ HSat w (mutE (ER kid b fi l s d A c B ce)) H' w' := by
  obtain ⟨κ, hκ⟩ : ∃ κ : Kp, κ = kid := ⟨_, rfl⟩
  have hH' : HSat w (mutE (ER kid b fi l s d A c B ce)) (heapOf (ER κ b fi l s d A c B ce)) w := by subst hκ; exact hH
  refine (callsE (n := 16) FTok [] mixed [] Try.func64 rfl (by kernel_rfl) #[.pointer (some ⟨b, 0, none⟩), .int .i64 slot] [(0, .c (.loc 200000 b 0)), (1, .c (.v (.int .i64 slot)))] _ w rfl [.tmp 4] rfl (by simp) (by simp [SV.den, C.den]) hH' (fun v H' => IsR (κ _ (r_handleR fi l s d slot).den) (κ _ (some (blkR b fi 200001 200002 A l.length c B l.length ce (s) (d)))) (κ _ (some (.row A c 2 1 l.length (encG (l))))) (κ _ (some (.row B ce 4 1 l.length (encV (l))))) v (H' 200000) (H' 200001) (H' 200002)) hκ ?_).mono ?_
  rotate_left
  · subst hκ; intro e w' h; exact h
  cbv
  repeat' (first | refine And.intro ?_ ?_ | (intro _; cbv) | (refine tst_mk (fun h => ?_) (fun h => ?_) <;> cbv) | (refine LookR.mk' (x := .v (.int .i64 (κ _ (gAt l slot)))) (by subst hκ; delta kid at *; exact sr_g (by assumption) hl) ?_; cbv))
  all_goals subst hκ
  all_goals (try delta kid at *)
  all_goals (try (exact ⟨trivial⟩))
  all_goals (try (exact ⟨by decide⟩))
  all_goals (try (exact ⟨⟨rfl, rfl, rfl, rfl⟩⟩))
  all_goals (try (exact ⟨⟨rfl, rfl, rfl, rfl, rfl, rfl, rfl⟩⟩))
  all_goals (try (exact ⟨⟨rfl, hl⟩⟩))
  all_goals (try (exact ⟨⟨rfl, rfl, hl⟩⟩))
  all_goals (try (exact ⟨rfl⟩))
  all_goals (try (exact ⟨‹_›⟩))
  all_goals (try (exact ⟨st_ix (by assumption) hl 1 (by decide)⟩))
  all_goals exact ⟨⟨rfl, rfl, rfl, rfl⟩⟩
def e_handleR {κ : Kp} (hκ : κ = kid) : ESpec Try.prog := rarES b_handleR F_handleR false (fun _ fi l s d rest p v o hF => by unfold F_handleR at hF; split at hF <;> first | (injection hF with hF; injection hF with _ hF; injection hF with _ hF; exact hF.symm) | cases hF) hκ fun fi l s d rest p v o hF hp hl b A c B ce w hH => by
  unfold F_handleR at hF
  split at hF
  · rename_i slot
    simp only [kid, Option.some.injEq, Prod.mk.injEq] at hF
    obtain ⟨rfl, rfl, rfl⟩ := hF
    exact (k_handleR fi l s d slot hp hl b A c B ce w hH).mono fun e w' ⟨v, H', he, ⟨hr⟩, hh⟩ => ⟨H', by rw [he, hr.1]; rfl, hh, hr.2.1, hr.2.2.1, hr.2.2.2⟩
  · cases hF

theorem b_cellR : Bodied Try.prog 42 := bodied Try.func42 rfl (by decide)
def r_cellR (fi : Int) (l : List St) (s d : Bool) (h0 : Int) (word : Int) : SV := .c (.v (.int .i64 (cellR fi l h0 word)))
def F_cellR : Fun02 := fun κ fi l s d rest => match rest with
  | [.c (.v (.int .i64 h0)), .c (.v (.int .i64 word))] => some (κ _ (True), .c (.v (.int .i64 (κ _ (cellR fi l h0 word)))), none)
  | _ => none
set_option maxRecDepth 100000 in
set_option maxHeartbeats 4000000 in
theorem k_cellR (fi : Int) (l : List St) (s d : Bool) (h0 : Int) (word : Int) (hside : True) (hl : l.length ≤ 1000) (b : Nat) (A : Option Addr) (c : Nat) (B : Option Addr) (ce : Nat) (w : World) (hH : HSat w (mutE (ER kid b fi l s d A c B ce)) (heapOf (ER kid b fi l s d A c B ce)) w) :
    Calls Try.prog 42 #[.pointer (some ⟨b, 0, none⟩), .int .i64 h0, .int .i64 word] w fun e w' => ∃ v H', e = .returned v.den ∧ IsR (r_cellR fi l s d h0 word).den (some (blkR b fi 200001 200002 A l.length c B l.length ce (s) (d))) (some (.row A c 2 1 l.length (encG (l)))) (some (.row B ce 4 1 l.length (encV (l)))) v (H' 200000) (H' 200001) (H' 200002) ∧ HSat w (mutE (ER kid b fi l s d A c B ce)) H' w' := by
  obtain ⟨κ, hκ⟩ : ∃ κ : Kp, κ = kid := ⟨_, rfl⟩
  have hH' : HSat w (mutE (ER kid b fi l s d A c B ce)) (heapOf (ER κ b fi l s d A c B ce)) w := by subst hκ; exact hH
  refine (callsE (n := 39) FTok [e_slotR hκ] mixed [] Try.func42 rfl (by kernel_rfl) #[.pointer (some ⟨b, 0, none⟩), .int .i64 h0, .int .i64 word] [(0, .c (.loc 200000 b 0)), (1, .c (.v (.int .i64 h0))), (2, .c (.v (.int .i64 word)))] _ w rfl [.tmp 6] rfl (by simp) (by simp [SV.den, C.den]) hH' (fun v H' => IsR (κ _ (r_cellR fi l s d h0 word).den) (κ _ (some (blkR b fi 200001 200002 A l.length c B l.length ce (s) (d)))) (κ _ (some (.row A c 2 1 l.length (encG (l))))) (κ _ (some (.row B ce 4 1 l.length (encV (l))))) v (H' 200000) (H' 200001) (H' 200002)) hκ ?_).mono ?_
  rotate_left
  · subst hκ; intro e w' h; exact h
  cbv
  repeat' (first | refine And.intro ?_ ?_ | (intro _; cbv) | (refine tst_mk (fun h => ?_) (fun h => ?_) <;> cbv))
  all_goals subst hκ
  all_goals (try delta kid at *)
  all_goals (try (exact ⟨trivial⟩))
  all_goals (try (exact ⟨by decide⟩))
  all_goals (try (exact ⟨⟨rfl, rfl, rfl, rfl⟩⟩))
  all_goals (try (exact ⟨⟨rfl, rfl, rfl, rfl, rfl, rfl, rfl⟩⟩))
  all_goals (try (exact ⟨⟨rfl, hl⟩⟩))
  all_goals (try (exact ⟨⟨rfl, rfl, hl⟩⟩))
  all_goals (try (exact ⟨rfl⟩))
  all_goals (try (exact ⟨‹_›⟩))
  all_goals refine ⟨⟨?_, rfl, rfl, rfl⟩⟩
  all_goals simp only [r_cellR, SV.den, C.den, cellR, GT.gt, GE.ge]
  all_goals (try simp only [*, Bool.not_true, Bool.not_false, Bool.or_true, Bool.true_or, Bool.or_false, Bool.false_or, if_true, if_false, Bool.false_eq_true])
  all_goals (try rfl)
  all_goals (try (simp_all; done))
  all_goals trace_state
  all_goals sorry
def e_cellR {κ : Kp} (hκ : κ = kid) : ESpec Try.prog := rarES b_cellR F_cellR false (fun _ fi l s d rest p v o hF => by unfold F_cellR at hF; split at hF <;> first | (injection hF with hF; injection hF with _ hF; injection hF with _ hF; exact hF.symm) | cases hF) hκ fun fi l s d rest p v o hF hp hl b A c B ce w hH => by
  unfold F_cellR at hF
  split at hF
  · rename_i h0 word
    simp only [kid, Option.some.injEq, Prod.mk.injEq] at hF
    obtain ⟨rfl, rfl, rfl⟩ := hF
    exact (k_cellR fi l s d h0 word hp hl b A c B ce w hH).mono fun e w' ⟨v, H', he, ⟨hr⟩, hh⟩ => ⟨H', by rw [he, hr.1]; rfl, hh, hr.2.1, hr.2.2.1, hr.2.2.2⟩
  · cases hF

theorem b_birthR : Bodied Try.prog 52 := bodied Try.func52 rfl (by decide)
def r_birthR (fi : Int) (l : List St) (s d : Bool) (slot : Int) : SV := .c (.v (.int .i64 (birthV l slot)))
def F_birthR : Fun02 := fun κ fi l s d rest => match rest with
  | [.c (.v (.int .i64 slot))] => some (κ _ (True), .c (.v (.int .i64 (κ _ (birthV l slot)))), some (κ _ (bornL l slot), κ _ (s), κ _ (bornD l d slot)))
  | _ => none
set_option maxRecDepth 100000 in
set_option maxHeartbeats 4000000 in
theorem k_birthR (fi : Int) (l : List St) (s d : Bool) (slot : Int) (hside : True) (hl : l.length ≤ 1000) (b : Nat) (A : Option Addr) (c : Nat) (B : Option Addr) (ce : Nat) (w : World) (hH : HSat w (mutE (ER kid b fi l s d A c B ce)) (heapOf (ER kid b fi l s d A c B ce)) w) :
    Calls Try.prog 52 #[.pointer (some ⟨b, 0, none⟩), .int .i64 slot] w fun e w' => ∃ v H', e = .returned v.den ∧ IsR (r_birthR fi l s d slot).den (some (blkR b fi 200001 200002 A l.length c B l.length ce (s) (bornD l d slot))) (some (.row A c 2 1 l.length (encG (bornL l slot)))) (some (.row B ce 4 1 l.length (encV (bornL l slot)))) v (H' 200000) (H' 200001) (H' 200002) ∧ HSat w (mutE (ER kid b fi l s d A c B ce)) H' w' := by
  obtain ⟨κ, hκ⟩ : ∃ κ : Kp, κ = kid := ⟨_, rfl⟩
  have hH' : HSat w (mutE (ER kid b fi l s d A c B ce)) (heapOf (ER κ b fi l s d A c B ce)) w := by subst hκ; exact hH
  refine (callsE (n := 47) FTok [e_handleR hκ] mixed [] Try.func52 rfl (by kernel_rfl) #[.pointer (some ⟨b, 0, none⟩), .int .i64 slot] [(0, .c (.loc 200000 b 0)), (1, .c (.v (.int .i64 slot)))] _ w rfl [.tmp 4] rfl (by simp) (by simp [SV.den, C.den]) hH' (fun v H' => IsR (κ _ (r_birthR fi l s d slot).den) (κ _ (some (blkR b fi 200001 200002 A l.length c B l.length ce (s) (bornD l d slot)))) (κ _ (some (.row A c 2 1 l.length (encG (bornL l slot))))) (κ _ (some (.row B ce 4 1 l.length (encV (bornL l slot))))) v (H' 200000) (H' 200001) (H' 200002)) hκ ?_).mono ?_
  rotate_left
  · subst hκ; intro e w' h; exact h
  cbv
  repeat' (first | refine And.intro ?_ ?_ | (intro _; cbv) | (refine tst_mk (fun h => ?_) (fun h => ?_) <;> cbv) | (refine LookR.mk' (x := .v (.bool (κ _ (vAt l slot)))) (by subst hκ; delta kid at *; exact sr_v (has_of (by assumption) (by assumption)) hl) ?_; cbv) | (refine LookR.mk' (x := .v (.int .i64 (κ _ (gAt l slot)))) (by subst hκ; delta kid at *; exact sr_g (has_of (by assumption) (by assumption)) hl) ?_; cbv) | (refine LookX.mk' (x := κ _ (bornL l slot)) (by subst hκ; delta kid at *; exact Prod.ext (birth_g (has_of (by assumption) (by assumption)) hl) (birth_v (has_of (by assumption) (by assumption)) hl)) ?_; cbv))
  all_goals subst hκ
  all_goals (try delta kid at *)
  all_goals (try (exact ⟨trivial⟩))
  all_goals (try (exact ⟨by decide⟩))
  all_goals (try (exact ⟨⟨rfl, rfl, rfl, rfl⟩⟩))
  all_goals (try (exact ⟨⟨rfl, rfl, rfl, rfl, rfl, rfl, rfl⟩⟩))
  all_goals (try (exact ⟨⟨rfl, hl⟩⟩))
  all_goals (try (exact ⟨⟨rfl, rfl, hl⟩⟩))
  all_goals (try (exact ⟨rfl⟩))
  all_goals (try (exact ⟨‹_›⟩))
  all_goals (try (exact ⟨st_ix (has_of (by assumption) (by assumption)) hl 1 (by decide)⟩))
  all_goals (try (exact ⟨⟨bornL_len _ _, bornL_len _ _, by rw [bornL_len]; exact hl⟩⟩))
  all_goals (try (exact ⟨by rw [bornL_len]; exact has_of (by assumption) (by assumption)⟩))
  all_goals (try (exact ⟨(put_lt1 (has_of (by assumption) (by assumption)) hl).1⟩))
  all_goals (try (exact ⟨(put_lt1 (has_of (by assumption) (by assumption)) hl).2⟩))
  all_goals (refine ⟨⟨?_, ?_, ?_, ?_⟩⟩)
  all_goals (try rw [birth_g (has_of (by assumption) (by assumption)) hl])
  all_goals (try rw [birth_v (has_of (by assumption) (by assumption)) hl])
  all_goals (first | have hc : hasSl l.length slot = true := has_of (by assumption) (by assumption) | have hc : hasSl l.length slot = false := has_not1 (by assumption) | have hc : hasSl l.length slot = false := has_not2 (by assumption))
  all_goals (simp_all [r_birthR, SV.den, C.den, birthV, bornD, blkR, bornL])

def e_birthR {κ : Kp} (hκ : κ = kid) : ESpec Try.prog := rarES b_birthR F_birthR true (fun h => by cases h) hκ fun fi l s d rest p v o hF hp hl b A c B ce w hH => by
  unfold F_birthR at hF
  split at hF
  · rename_i slot
    simp only [kid, Option.some.injEq, Prod.mk.injEq] at hF
    obtain ⟨rfl, rfl, rfl⟩ := hF
    exact (k_birthR fi l s d slot hp hl b A c B ce w hH).mono fun e w' ⟨v, H', he, ⟨hr⟩, hh⟩ => ⟨H', by rw [he, hr.1]; rfl, hh, hr.2.1, hr.2.2.1, hr.2.2.2⟩
  · cases hF

theorem b_rightR : Bodied Try.prog 55 := bodied Try.func55 rfl (by decide)
def r_rightR (fi : Int) (l : List St) (s d : Bool) (h0 : Int) : SV := .c (.v (.bool (rightR l h0)))
def F_rightR : Fun02 := fun κ fi l s d rest => match rest with
  | [.c (.v (.int .i64 h0))] => some (κ _ (True), .c (.v (.bool (κ _ (rightR l h0)))), none)
  | _ => none
set_option maxRecDepth 100000 in
set_option maxHeartbeats 4000000 in
theorem k_rightR (fi : Int) (l : List St) (s d : Bool) (h0 : Int) (hside : True) (hl : l.length ≤ 1000) (b : Nat) (A : Option Addr) (c : Nat) (B : Option Addr) (ce : Nat) (w : World) (hH : HSat w (mutE (ER kid b fi l s d A c B ce)) (heapOf (ER kid b fi l s d A c B ce)) w) :
    Calls Try.prog 55 #[.pointer (some ⟨b, 0, none⟩), .int .i64 h0] w fun e w' => ∃ v H', e = .returned v.den ∧ IsR (r_rightR fi l s d h0).den (some (blkR b fi 200001 200002 A l.length c B l.length ce (s) (d))) (some (.row A c 2 1 l.length (encG (l)))) (some (.row B ce 4 1 l.length (encV (l)))) v (H' 200000) (H' 200001) (H' 200002) ∧ HSat w (mutE (ER kid b fi l s d A c B ce)) H' w' := by
  obtain ⟨κ, hκ⟩ : ∃ κ : Kp, κ = kid := ⟨_, rfl⟩
  have hH' : HSat w (mutE (ER kid b fi l s d A c B ce)) (heapOf (ER κ b fi l s d A c B ce)) w := by subst hκ; exact hH
  refine (callsE (n := 30) FTok [e_handleR hκ] mixed [] Try.func55 rfl (by kernel_rfl) #[.pointer (some ⟨b, 0, none⟩), .int .i64 h0] [(0, .c (.loc 200000 b 0)), (1, .c (.v (.int .i64 h0)))] _ w rfl [.tmp 4] rfl (by simp) (by simp [SV.den, C.den]) hH' (fun v H' => IsR (κ _ (r_rightR fi l s d h0).den) (κ _ (some (blkR b fi 200001 200002 A l.length c B l.length ce (s) (d)))) (κ _ (some (.row A c 2 1 l.length (encG (l))))) (κ _ (some (.row B ce 4 1 l.length (encV (l))))) v (H' 200000) (H' 200001) (H' 200002)) hκ ?_).mono ?_
  rotate_left
  · subst hκ; intro e w' h; exact h
  cbv
  repeat' (first | refine And.intro ?_ ?_ | (intro _; cbv) | (refine tst_mk (fun h => ?_) (fun h => ?_) <;> cbv))
  refine loopG FTok [e_handleR hκ] mixed [0, 1] (σ := {i : Nat // i ≤ l.length ∧ ∀ j : Nat, j < i → (vAt l (j + 1) && (handleR l (j + 1) == h0)) = false}) (fun q => [(5, .c (.v (.int .i64 (κ _ ((q.1 : Nat) : Int)))))]) (fun _ => ER κ b fi l s d A c B ce) (fun q => l.length - q.1) ⟨0, ⟨Nat.zero_le _, fun j hj => absurd hj (Nat.not_lt_zero j)⟩⟩ [200000, 200001, 200002] ?_ (by decide) ?_ hκ ?_
  · cbv
    subst hκ
    delta kid
    exact ⟨rfl, trivial⟩
  · cbv
  rintro ⟨i, hi1, hi2⟩
  cbv
  refine tst_mk (fun h => ?_) (fun h => ?_)
  · have hi : i < l.length := by subst hκ; delta kid at h; have h2 : (i : Int) < (l.length : Int) := of_decide_eq_true h; omega
    have hs := hasN_succ hi hl
    cbv
    repeat' (first | refine And.intro ?_ ?_ | (intro _; cbv) | (refine tst_mk (fun h => ?_) (fun h => ?_) <;> cbv) | (refine LookX.mk' (x := l) (by subst hκ; rfl) ?_; cbv) | (refine LookR.mk' (x := .v (.bool (κ _ (vAt l (i + 1))))) (by subst hκ; delta kid at *; exact sr_vN hi) ?_; cbv))
    all_goals (try (subst hκ; delta kid at *; dsimp only at *))
    all_goals (try (exact ⟨ixN hi⟩))
    all_goals (try (exact ⟨rfl⟩))
    all_goals (try (exact ⟨⟨rfl, rfl, hl⟩⟩))
    all_goals (try (exact ⟨⟨rfl, rfl, rfl, rfl, rfl, rfl, rfl⟩⟩))
    all_goals (try (exact ⟨hs.1⟩))
    all_goals (try (rw [hs.2] at h))
    all_goals (have e : w64 ((i : Int) + 1) = ((i + 1 : Nat) : Int) := by rw [w64_id (by unfold In64; omega)]; rfl)
    all_goals (try (refine ⟨⟨?_, rfl, rfl, rfl⟩⟩; show Value.bool true = Value.bool (rightR l h0); rw [rightR_yes hi (by assumption) (by simpa using h)]))
    all_goals (have hn := rightR_next hi2 (by first | (rw [h, Bool.and_false]; done) | (rw [h, Bool.false_and])))
    all_goals (exact ⟨⟨⟨i + 1, ⟨hi, hn⟩⟩, [200000, 200001, 200002], (by show l.length - (i + 1) < l.length - i; omega), by decide, ⟨rfl, rfl, rfl, rfl, rfl, congrArg (Value.int .i64) e, trivial⟩, ⟨rfl, rfl, rfl⟩, ⟨rfl, rfl, rfl, rfl, rfl, rfl⟩, ⟨rfl, rfl, rfl, rfl, rfl, rfl⟩, trivial⟩⟩)
  cbv
  have hi : ¬ i < l.length := by subst hκ; delta kid at h; have h2 : ¬ (i : Int) < (l.length : Int) := of_decide_eq_false h; omega
  have hr : rightR l h0 = false := rightR_no (fun j hj => hi2 j (by omega))

  all_goals subst hκ
  all_goals (try delta kid at *)
  all_goals (try (exact ⟨trivial⟩))
  all_goals (try (exact ⟨by decide⟩))
  all_goals (try (exact ⟨⟨rfl, rfl, rfl, rfl⟩⟩))
  all_goals (try (exact ⟨⟨rfl, rfl, rfl, rfl, rfl, rfl, rfl⟩⟩))
  all_goals (try (exact ⟨⟨rfl, hl⟩⟩))
  all_goals (try (exact ⟨⟨rfl, rfl, hl⟩⟩))
  all_goals (try (exact ⟨rfl⟩))
  all_goals (try (exact ⟨‹_›⟩))
  all_goals (refine ⟨⟨?_, rfl, rfl, rfl⟩⟩)
  all_goals (show Value.bool false = Value.bool (rightR l h0); rw [hr])

def e_rightR {κ : Kp} (hκ : κ = kid) : ESpec Try.prog := rarES b_rightR F_rightR false (fun _ fi l s d rest p v o hF => by unfold F_rightR at hF; split at hF <;> first | (injection hF with hF; injection hF with _ hF; injection hF with _ hF; exact hF.symm) | cases hF) hκ fun fi l s d rest p v o hF hp hl b A c B ce w hH => by
  unfold F_rightR at hF
  split at hF
  · rename_i h0
    simp only [kid, Option.some.injEq, Prod.mk.injEq] at hF
    obtain ⟨rfl, rfl, rfl⟩ := hF
    exact (k_rightR fi l s d h0 hp hl b A c B ce w hH).mono fun e w' ⟨v, H', he, ⟨hr⟩, hh⟩ => ⟨H', by rw [he, hr.1]; rfl, hh, hr.2.1, hr.2.2.1, hr.2.2.2⟩
  · cases hF

theorem b_deathR : Bodied Try.prog 53 := bodied Try.func53 rfl (by decide)
def r_deathR (fi : Int) (l : List St) (s d : Bool) (h0 : Int) : SV := .tup []
def F_deathR : Fun02 := fun κ fi l s d rest => match rest with
  | [.c (.v (.int .i64 h0))] => some (κ _ (Fine l 999), .tup [], some (κ _ (deathL l h0), κ _ (s), κ _ (deathD l d h0)))
  | _ => none
set_option maxRecDepth 100000 in
set_option maxHeartbeats 4000000 in
theorem k_deathR (fi : Int) (l : List St) (s d : Bool) (h0 : Int) (hside : Fine l 999) (hl : l.length ≤ 1000) (b : Nat) (A : Option Addr) (c : Nat) (B : Option Addr) (ce : Nat) (w : World) (hH : HSat w (mutE (ER kid b fi l s d A c B ce)) (heapOf (ER kid b fi l s d A c B ce)) w) :
    Calls Try.prog 53 #[.pointer (some ⟨b, 0, none⟩), .int .i64 h0] w fun e w' => ∃ v H', e = .returned v.den ∧ IsR (r_deathR fi l s d h0).den (some (blkR b fi 200001 200002 A l.length c B l.length ce (s) (deathD l d h0))) (some (.row A c 2 1 l.length (encG (deathL l h0)))) (some (.row B ce 4 1 l.length (encV (deathL l h0)))) v (H' 200000) (H' 200001) (H' 200002) ∧ HSat w (mutE (ER kid b fi l s d A c B ce)) H' w' := by
  obtain ⟨κ, hκ⟩ : ∃ κ : Kp, κ = kid := ⟨_, rfl⟩
  have hH' : HSat w (mutE (ER kid b fi l s d A c B ce)) (heapOf (ER κ b fi l s d A c B ce)) w := by subst hκ; exact hH
  refine (callsE (n := 19) FTok [e_rightR hκ, e_slotR hκ] mixed [(2, [[], [], [], [], [0, 1, 2, 3], [0, 1, 2, 3], [0, 1, 2, 3], [], []])] Try.func53 rfl (by kernel_rfl) #[.pointer (some ⟨b, 0, none⟩), .int .i64 h0] [(0, .c (.loc 200000 b 0)), (1, .c (.v (.int .i64 h0)))] _ w rfl [] rfl (by simp) (by simp [SV.den, C.den]) hH' (fun v H' => IsR (κ _ (r_deathR fi l s d h0).den) (κ _ (some (blkR b fi 200001 200002 A l.length c B l.length ce (s) (deathD l d h0)))) (κ _ (some (.row A c 2 1 l.length (encG (deathL l h0))))) (κ _ (some (.row B ce 4 1 l.length (encV (deathL l h0))))) v (H' 200000) (H' 200001) (H' 200002)) hκ ?_).mono ?_
  rotate_left
  · subst hκ; intro e w' h; exact h
  cbv
  repeat' (first | refine And.intro ?_ ?_ | (intro _; cbv) | (refine tst_mk (fun h => ?_) (fun h => ?_) <;> cbv) | (refine LookX.mk' (x := l) (by subst hκ; rfl) ?_; cbv))
  all_goals subst hκ
  all_goals (try delta kid at *)
  all_goals (try (exact ⟨trivial⟩))
  all_goals (try (exact ⟨by decide⟩))
  all_goals (try (exact ⟨⟨rfl, rfl, rfl, rfl⟩⟩))
  all_goals (try (exact ⟨⟨rfl, rfl, rfl, rfl, rfl, rfl, rfl⟩⟩))
  all_goals (try (exact ⟨⟨rfl, hl⟩⟩))
  all_goals (try (exact ⟨⟨rfl, rfl, hl⟩⟩))
  all_goals (try (exact ⟨rfl⟩))
  all_goals (try (exact ⟨‹_›⟩))
  all_goals (try (exact ⟨st_ix (rightR_has hside (by decide) (by assumption)) hl 1 (by decide)⟩))
  all_goals (try (exact ⟨(put_lt1 (rightR_has hside (by decide) (by assumption)) hl).2⟩))
  all_goals (refine ⟨⟨?_, ?_, ?_, ?_⟩⟩)
  all_goals (try rfl)
  all_goals (try rw [putV (rightR_has hside (by decide) (by assumption)) hl (gAt l (slotR h0)) false])
  all_goals (try (have hb := rightR_has hside (by decide) ‹rightR l h0 = true›))
  all_goals (simp_all [deathL, deathD, blkR])
  all_goals (exact encG_same hb hl false)

def e_deathR {κ : Kp} (hκ : κ = kid) : ESpec Try.prog := rarES b_deathR F_deathR true (fun h => by cases h) hκ fun fi l s d rest p v o hF hp hl b A c B ce w hH => by
  unfold F_deathR at hF
  split at hF
  · rename_i h0
    simp only [kid, Option.some.injEq, Prod.mk.injEq] at hF
    obtain ⟨rfl, rfl, rfl⟩ := hF
    exact (k_deathR fi l s d h0 hp hl b A c B ce w hH).mono fun e w' ⟨v, H', he, ⟨hr⟩, hh⟩ => ⟨H', by rw [he, hr.1]; rfl, hh, hr.2.1, hr.2.2.1, hr.2.2.2⟩
  · cases hF

end Go.Proofs.Ytjlgeoaomegbmaa.Eng
