/- Contracts of methods of arenas (printed by genar.py of this work): what each hands back, and turns; condition: as its 'hside' says. -/
import Derived.Test.YtjlgeoaomegbmaaAren0
namespace Go.Proofs.Ytjlgeoaomegbmaa.Eng
open Go Go.RowKit
set_option linter.unusedVariables false
set_option linter.unusedSimpArgs false

theorem b_slotsP : Bodied Try.prog 40 := bodied Try.func40 rfl (by decide)
def r_slotsP (fi : Int) (l : List St) (s d : Bool) : SV := .c (.v (.int .i64 ((l.length : Int))))
def F_slotsP : Fun02 := fun κ fi l s d rest => match rest with
  | [] => some (κ _ (True), .c (.v (.int .i64 (κ _ ((l.length : Int))))), none)
  | _ => none
set_option maxRecDepth 100000 in
set_option maxHeartbeats 4000000 in
theorem k_slotsP (fi : Int) (l : List St) (s d : Bool) (hside : True) (hl : l.length ≤ 1000) (b : Nat) (A : Option Addr) (c : Nat) (w : World) (hH : HSat w (mutE (EP kid b fi l s d A c)) (heapOf (EP kid b fi l s d A c)) w) :
    Calls Try.prog 40 #[.pointer (some ⟨b, 0, none⟩)] w fun e w' => ∃ v H', e = .returned v.den ∧ IsA (r_slotsP fi l s d).den (some (blkP b fi 200001 A l.length c (s) (d))) (some (.row A c 84 2 l.length (encS (l)))) v (H' 200000) (H' 200001) ∧ HSat w (mutE (EP kid b fi l s d A c)) H' w' := by
  obtain ⟨κ, hκ⟩ : ∃ κ : Kp, κ = kid := ⟨_, rfl⟩
  have hH' : HSat w (mutE (EP kid b fi l s d A c)) (heapOf (EP κ b fi l s d A c)) w := by subst hκ; exact hH
  refine (callsE (n := 8) FTok [] mixed [] Try.func40 rfl (by kernel_rfl) #[.pointer (some ⟨b, 0, none⟩)] [(0, .c (.loc 200000 b 0))] _ w rfl [.tmp 2] rfl (by simp) (by simp [SV.den, C.den]) hH' (fun v H' => IsA (κ _ (r_slotsP fi l s d).den) (κ _ (some (blkP b fi 200001 A l.length c (s) (d)))) (κ _ (some (.row A c 84 2 l.length (encS (l))))) v (H' 200000) (H' 200001)) hκ ?_).mono ?_
  rotate_left
  · subst hκ; intro e w' h; exact h
  cbv
  repeat' (first | refine And.intro ?_ ?_ | (intro _; cbv) | (refine tst_mk (fun h => ?_) (fun h => ?_) <;> cbv))
  all_goals subst hκ
  all_goals (try delta kid at *)
  all_goals (try (exact ⟨trivial⟩))
  all_goals (try (exact ⟨by decide⟩))
  all_goals (try (exact ⟨⟨rfl, rfl, rfl, rfl⟩⟩))
  all_goals (try (exact ⟨⟨rfl, rfl, rfl, rfl, rfl, rfl, rfl⟩⟩))
  all_goals (try (exact ⟨⟨rfl, hl⟩⟩))
  all_goals (try (exact ⟨⟨rfl, rfl, hl⟩⟩))
  all_goals (try (exact ⟨rfl⟩))
  all_goals (try (exact ⟨‹_›⟩))
  all_goals exact ⟨⟨rfl, rfl, rfl⟩⟩
def e_slotsP {κ : Kp} (hκ : κ = kid) : ESpec Try.prog := parES b_slotsP F_slotsP false (fun _ fi l s d rest p v o hF => by unfold F_slotsP at hF; split at hF <;> first | (injection hF with hF; injection hF with _ hF; injection hF with _ hF; exact hF.symm) | cases hF) hκ fun fi l s d rest p v o hF hp hl b A c w hH => by
  unfold F_slotsP at hF
  split at hF
  · skip
    simp only [kid, Option.some.injEq, Prod.mk.injEq] at hF
    obtain ⟨rfl, rfl, rfl⟩ := hF
    exact (k_slotsP fi l s d hp hl b A c w hH).mono fun e w' ⟨v, H', he, ⟨hr⟩, hh⟩ => ⟨H', by rw [he, hr.1]; rfl, hh, hr.2.1, hr.2.2⟩
  · cases hF

theorem b_staleP : Bodied Try.prog 50 := bodied Try.func50 rfl (by decide)
def r_staleP (fi : Int) (l : List St) (s d : Bool) : SV := .c (.v (.bool (s)))
def F_staleP : Fun02 := fun κ fi l s d rest => match rest with
  | [] => some (κ _ (True), .c (.v (.bool (κ _ (s)))), none)
  | _ => none
set_option maxRecDepth 100000 in
set_option maxHeartbeats 4000000 in
theorem k_staleP (fi : Int) (l : List St) (s d : Bool) (hside : True) (hl : l.length ≤ 1000) (b : Nat) (A : Option Addr) (c : Nat) (w : World) (hH : HSat w (mutE (EP kid b fi l s d A c)) (heapOf (EP kid b fi l s d A c)) w) :
    Calls Try.prog 50 #[.pointer (some ⟨b, 0, none⟩)] w fun e w' => ∃ v H', e = .returned v.den ∧ IsA (r_staleP fi l s d).den (some (blkP b fi 200001 A l.length c (s) (d))) (some (.row A c 84 2 l.length (encS (l)))) v (H' 200000) (H' 200001) ∧ HSat w (mutE (EP kid b fi l s d A c)) H' w' := by
  obtain ⟨κ, hκ⟩ : ∃ κ : Kp, κ = kid := ⟨_, rfl⟩
  have hH' : HSat w (mutE (EP kid b fi l s d A c)) (heapOf (EP κ b fi l s d A c)) w := by subst hκ; exact hH
  refine (callsE (n := 7) FTok [] mixed [] Try.func50 rfl (by kernel_rfl) #[.pointer (some ⟨b, 0, none⟩)] [(0, .c (.loc 200000 b 0))] _ w rfl [.tmp 2] rfl (by simp) (by simp [SV.den, C.den]) hH' (fun v H' => IsA (κ _ (r_staleP fi l s d).den) (κ _ (some (blkP b fi 200001 A l.length c (s) (d)))) (κ _ (some (.row A c 84 2 l.length (encS (l))))) v (H' 200000) (H' 200001)) hκ ?_).mono ?_
  rotate_left
  · subst hκ; intro e w' h; exact h
  cbv
  repeat' (first | refine And.intro ?_ ?_ | (intro _; cbv) | (refine tst_mk (fun h => ?_) (fun h => ?_) <;> cbv))
  all_goals subst hκ
  all_goals (try delta kid at *)
  all_goals (try (exact ⟨trivial⟩))
  all_goals (try (exact ⟨by decide⟩))
  all_goals (try (exact ⟨⟨rfl, rfl, rfl, rfl⟩⟩))
  all_goals (try (exact ⟨⟨rfl, rfl, rfl, rfl, rfl, rfl, rfl⟩⟩))
  all_goals (try (exact ⟨⟨rfl, hl⟩⟩))
  all_goals (try (exact ⟨⟨rfl, rfl, hl⟩⟩))
  all_goals (try (exact ⟨rfl⟩))
  all_goals (try (exact ⟨‹_›⟩))
  all_goals exact ⟨⟨rfl, rfl, rfl⟩⟩
def e_staleP {κ : Kp} (hκ : κ = kid) : ESpec Try.prog := parES b_staleP F_staleP false (fun _ fi l s d rest p v o hF => by unfold F_staleP at hF; split at hF <;> first | (injection hF with hF; injection hF with _ hF; injection hF with _ hF; exact hF.symm) | cases hF) hκ fun fi l s d rest p v o hF hp hl b A c w hH => by
  unfold F_staleP at hF
  split at hF
  · skip
    simp only [kid, Option.some.injEq, Prod.mk.injEq] at hF
    obtain ⟨rfl, rfl, rfl⟩ := hF
    exact (k_staleP fi l s d hp hl b A c w hH).mono fun e w' ⟨v, H', he, ⟨hr⟩, hh⟩ => ⟨H', by rw [he, hr.1]; rfl, hh, hr.2.1, hr.2.2⟩
  · cases hF

theorem b_doubleP : Bodied Try.prog 51 := bodied Try.func51 rfl (by decide)
def r_doubleP (fi : Int) (l : List St) (s d : Bool) : SV := .c (.v (.bool (d)))
def F_doubleP : Fun02 := fun κ fi l s d rest => match rest with
  | [] => some (κ _ (True), .c (.v (.bool (κ _ (d)))), none)
  | _ => none
set_option maxRecDepth 100000 in
set_option maxHeartbeats 4000000 in
theorem k_doubleP (fi : Int) (l : List St) (s d : Bool) (hside : True) (hl : l.length ≤ 1000) (b : Nat) (A : Option Addr) (c : Nat) (w : World) (hH : HSat w (mutE (EP kid b fi l s d A c)) (heapOf (EP kid b fi l s d A c)) w) :
    Calls Try.prog 51 #[.pointer (some ⟨b, 0, none⟩)] w fun e w' => ∃ v H', e = .returned v.den ∧ IsA (r_doubleP fi l s d).den (some (blkP b fi 200001 A l.length c (s) (d))) (some (.row A c 84 2 l.length (encS (l)))) v (H' 200000) (H' 200001) ∧ HSat w (mutE (EP kid b fi l s d A c)) H' w' := by
  obtain ⟨κ, hκ⟩ : ∃ κ : Kp, κ = kid := ⟨_, rfl⟩
  have hH' : HSat w (mutE (EP kid b fi l s d A c)) (heapOf (EP κ b fi l s d A c)) w := by subst hκ; exact hH
  refine (callsE (n := 7) FTok [] mixed [] Try.func51 rfl (by kernel_rfl) #[.pointer (some ⟨b, 0, none⟩)] [(0, .c (.loc 200000 b 0))] _ w rfl [.tmp 2] rfl (by simp) (by simp [SV.den, C.den]) hH' (fun v H' => IsA (κ _ (r_doubleP fi l s d).den) (κ _ (some (blkP b fi 200001 A l.length c (s) (d)))) (κ _ (some (.row A c 84 2 l.length (encS (l))))) v (H' 200000) (H' 200001)) hκ ?_).mono ?_
  rotate_left
  · subst hκ; intro e w' h; exact h
  cbv
  repeat' (first | refine And.intro ?_ ?_ | (intro _; cbv) | (refine tst_mk (fun h => ?_) (fun h => ?_) <;> cbv))
  all_goals subst hκ
  all_goals (try delta kid at *)
  all_goals (try (exact ⟨trivial⟩))
  all_goals (try (exact ⟨by decide⟩))
  all_goals (try (exact ⟨⟨rfl, rfl, rfl, rfl⟩⟩))
  all_goals (try (exact ⟨⟨rfl, rfl, rfl, rfl, rfl, rfl, rfl⟩⟩))
  all_goals (try (exact ⟨⟨rfl, hl⟩⟩))
  all_goals (try (exact ⟨⟨rfl, rfl, hl⟩⟩))
  all_goals (try (exact ⟨rfl⟩))
  all_goals (try (exact ⟨‹_›⟩))
  all_goals exact ⟨⟨rfl, rfl, rfl⟩⟩
def e_doubleP {κ : Kp} (hκ : κ = kid) : ESpec Try.prog := parES b_doubleP F_doubleP false (fun _ fi l s d rest p v o hF => by unfold F_doubleP at hF; split at hF <;> first | (injection hF with hF; injection hF with _ hF; injection hF with _ hF; exact hF.symm) | cases hF) hκ fun fi l s d rest p v o hF hp hl b A c w hH => by
  unfold F_doubleP at hF
  split at hF
  · skip
    simp only [kid, Option.some.injEq, Prod.mk.injEq] at hF
    obtain ⟨rfl, rfl, rfl⟩ := hF
    exact (k_doubleP fi l s d hp hl b A c w hH).mono fun e w' ⟨v, H', he, ⟨hr⟩, hh⟩ => ⟨H', by rw [he, hr.1]; rfl, hh, hr.2.1, hr.2.2⟩
  · cases hF

theorem b_hasP : Bodied Try.prog 60 := bodied Try.func60 rfl (by decide)
def r_hasP (fi : Int) (l : List St) (s d : Bool) (slot : Int) : SV := .c (.v (.bool (hasSl l.length slot)))
def F_hasP : Fun02 := fun κ fi l s d rest => match rest with
  | [.c (.v (.int .i64 slot))] => some (κ _ (True), .c (.v (.bool (κ _ (hasSl l.length slot)))), none)
  | _ => none
set_option maxRecDepth 100000 in
set_option maxHeartbeats 4000000 in
theorem k_hasP (fi : Int) (l : List St) (s d : Bool) (slot : Int) (hside : True) (hl : l.length ≤ 1000) (b : Nat) (A : Option Addr) (c : Nat) (w : World) (hH : HSat w (mutE (EP kid b fi l s d A c)) (heapOf (EP kid b fi l s d A c)) w) :
    Calls Try.prog 60 #[.pointer (some ⟨b, 0, none⟩), .int .i64 slot] w fun e w' => ∃ v H', e = .returned v.den ∧ IsA (r_hasP fi l s d slot).den (some (blkP b fi 200001 A l.length c (s) (d))) (some (.row A c 84 2 l.length (encS (l)))) v (H' 200000) (H' 200001) ∧ HSat w (mutE (EP kid b fi l s d A c)) H' w' := by
  obtain ⟨κ, hκ⟩ : ∃ κ : Kp, κ = kid := ⟨_, rfl⟩
  have hH' : HSat w (mutE (EP kid b fi l s d A c)) (heapOf (EP κ b fi l s d A c)) w := by subst hκ; exact hH
  refine (callsE (n := 16) FTok [] mixed [] Try.func60 rfl (by kernel_rfl) #[.pointer (some ⟨b, 0, none⟩), .int .i64 slot] [(0, .c (.loc 200000 b 0)), (1, .c (.v (.int .i64 slot)))] _ w rfl [.tmp 4] rfl (by simp) (by simp [SV.den, C.den]) hH' (fun v H' => IsA (κ _ (r_hasP fi l s d slot).den) (κ _ (some (blkP b fi 200001 A l.length c (s) (d)))) (κ _ (some (.row A c 84 2 l.length (encS (l))))) v (H' 200000) (H' 200001)) hκ ?_).mono ?_
  rotate_left
  · subst hκ; intro e w' h; exact h
  cbv
  repeat' (first | refine And.intro ?_ ?_ | (intro _; cbv) | (refine tst_mk (fun h => ?_) (fun h => ?_) <;> cbv))
  all_goals subst hκ
  all_goals (try delta kid at *)
  all_goals (try (exact ⟨trivial⟩))
  all_goals (try (exact ⟨by decide⟩))
  all_goals (try (exact ⟨⟨rfl, rfl, rfl, rfl⟩⟩))
  all_goals (try (exact ⟨⟨rfl, rfl, rfl, rfl, rfl, rfl, rfl⟩⟩))
  all_goals (try (exact ⟨⟨rfl, hl⟩⟩))
  all_goals (try (exact ⟨⟨rfl, rfl, hl⟩⟩))
  all_goals (try (exact ⟨rfl⟩))
  all_goals (try (exact ⟨‹_›⟩))
  all_goals refine ⟨⟨?_, rfl, rfl⟩⟩
  all_goals (try (simp_all [r_hasP, SV.den, C.den, hasSl]; done))
  all_goals (try (simp_all [r_hasP, SV.den, C.den, hasSl]; omega))
def e_hasP {κ : Kp} (hκ : κ = kid) : ESpec Try.prog := parES b_hasP F_hasP false (fun _ fi l s d rest p v o hF => by unfold F_hasP at hF; split at hF <;> first | (injection hF with hF; injection hF with _ hF; injection hF with _ hF; exact hF.symm) | cases hF) hκ fun fi l s d rest p v o hF hp hl b A c w hH => by
  unfold F_hasP at hF
  split at hF
  · rename_i slot
    simp only [kid, Option.some.injEq, Prod.mk.injEq] at hF
    obtain ⟨rfl, rfl, rfl⟩ := hF
    exact (k_hasP fi l s d slot hp hl b A c w hH).mono fun e w' ⟨v, H', he, ⟨hr⟩, hh⟩ => ⟨H', by rw [he, hr.1]; rfl, hh, hr.2.1, hr.2.2⟩
  · cases hF

theorem b_handleP : Bodied Try.prog 63 := bodied Try.func63 rfl (by decide)
def r_handleP (fi : Int) (l : List St) (s d : Bool) (slot : Int) : SV := .c (.v (.int .i64 (handleP l slot)))
def F_handleP : Fun02 := fun κ fi l s d rest => match rest with
  | [.c (.v (.int .i64 slot))] => some (κ _ (hasSl l.length slot = true), .c (.v (.int .i64 (κ _ (handleP l slot)))), none)
  | _ => none
set_option maxRecDepth 100000 in
set_option maxHeartbeats 4000000 in
theorem k_handleP (fi : Int) (l : List St) (s d : Bool) (slot : Int) (hside : hasSl l.length slot = true) (hl : l.length ≤ 1000) (b : Nat) (A : Option Addr) (c : Nat) (w : World) (hH : HSat w (mutE (EP kid b fi l s d A c)) (heapOf (EP kid b fi l s d A c)) w) :
    Calls Try.prog 63 #[.pointer (some ⟨b, 0, none⟩), .int .i64 slot] w fun e w' => ∃ v H', e = .returned v.den ∧ IsA (r_handleP fi l s d slot).den (some (blkP b fi 200001 A l.length c (s) (d))) (some (.row A c 84 2 l.length (encS (l)))) v (H' 200000) (H' 200001) ∧ HSat w (mutE (EP kid b fi l s d A c)) H' w' := by
  obtain ⟨κ, hκ⟩ : ∃ κ : Kp, κ = kid := ⟨_, rfl⟩
  have hH' : HSat w (mutE (EP kid b fi l s d A c)) (heapOf (EP κ b fi l s d A c)) w := by subst hκ; exact hH
  refine (callsE (n := 17) FTok [] mixed [] Try.func63 rfl (by kernel_rfl) #[.pointer (some ⟨b, 0, none⟩), .int .i64 slot] [(0, .c (.loc 200000 b 0)), (1, .c (.v (.int .i64 slot)))] _ w rfl [.tmp 4] rfl (by simp) (by simp [SV.den, C.den]) hH' (fun v H' => IsA (κ _ (r_handleP fi l s d slot).den) (κ _ (some (blkP b fi 200001 A l.length c (s) (d)))) (κ _ (some (.row A c 84 2 l.length (encS (l))))) v (H' 200000) (H' 200001)) hκ ?_).mono ?_
  rotate_left
  · subst hκ; intro e w' h; exact h
  cbv
  repeat' (first | refine And.intro ?_ ?_ | (intro _; cbv) | (refine tst_mk (fun h => ?_) (fun h => ?_) <;> cbv) | (refine LookR.mk' (x := .v (.int .i64 (κ _ (gAt l slot)))) (by subst hκ; delta kid at *; exact st_g (by assumption) hl) ?_; cbv))
  all_goals subst hκ
  all_goals (try delta kid at *)
  all_goals (try (exact ⟨trivial⟩))
  all_goals (try (exact ⟨by decide⟩))
  all_goals (try (exact ⟨⟨rfl, rfl, rfl, rfl⟩⟩))
  all_goals (try (exact ⟨⟨rfl, rfl, rfl, rfl, rfl, rfl, rfl⟩⟩))
  all_goals (try (exact ⟨⟨rfl, hl⟩⟩))
  all_goals (try (exact ⟨⟨rfl, rfl, hl⟩⟩))
  all_goals (try (exact ⟨rfl⟩))
  all_goals (try (exact ⟨‹_›⟩))
  all_goals (try (exact ⟨st_ix (by assumption) hl 2 (by decide)⟩))
  all_goals exact ⟨⟨rfl, rfl, rfl⟩⟩
def e_handleP {κ : Kp} (hκ : κ = kid) : ESpec Try.prog := parES b_handleP F_handleP false (fun _ fi l s d rest p v o hF => by unfold F_handleP at hF; split at hF <;> first | (injection hF with hF; injection hF with _ hF; injection hF with _ hF; exact hF.symm) | cases hF) hκ fun fi l s d rest p v o hF hp hl b A c w hH => by
  unfold F_handleP at hF
  split at hF
  · rename_i slot
    simp only [kid, Option.some.injEq, Prod.mk.injEq] at hF
    obtain ⟨rfl, rfl, rfl⟩ := hF
    exact (k_handleP fi l s d slot hp hl b A c w hH).mono fun e w' ⟨v, H', he, ⟨hr⟩, hh⟩ => ⟨H', by rw [he, hr.1]; rfl, hh, hr.2.1, hr.2.2⟩
  · cases hF

theorem b_cellP : Bodied Try.prog 41 := bodied Try.func41 rfl (by decide)
def r_cellP (fi : Int) (l : List St) (s d : Bool) (h0 : Int) (word : Int) : SV := .c (.v (.int .i64 (cellP fi l h0 word)))
def F_cellP : Fun02 := fun κ fi l s d rest => match rest with
  | [.c (.v (.int .i64 h0)), .c (.v (.int .i64 word))] => some (κ _ (True), .c (.v (.int .i64 (κ _ (cellP fi l h0 word)))), none)
  | _ => none
set_option maxRecDepth 100000 in
set_option maxHeartbeats 4000000 in
theorem k_cellP (fi : Int) (l : List St) (s d : Bool) (h0 : Int) (word : Int) (hside : True) (hl : l.length ≤ 1000) (b : Nat) (A : Option Addr) (c : Nat) (w : World) (hH : HSat w (mutE (EP kid b fi l s d A c)) (heapOf (EP kid b fi l s d A c)) w) :
    Calls Try.prog 41 #[.pointer (some ⟨b, 0, none⟩), .int .i64 h0, .int .i64 word] w fun e w' => ∃ v H', e = .returned v.den ∧ IsA (r_cellP fi l s d h0 word).den (some (blkP b fi 200001 A l.length c (s) (d))) (some (.row A c 84 2 l.length (encS (l)))) v (H' 200000) (H' 200001) ∧ HSat w (mutE (EP kid b fi l s d A c)) H' w' := by
  obtain ⟨κ, hκ⟩ : ∃ κ : Kp, κ = kid := ⟨_, rfl⟩
  have hH' : HSat w (mutE (EP kid b fi l s d A c)) (heapOf (EP κ b fi l s d A c)) w := by subst hκ; exact hH
  refine (callsE (n := 32) FTok [e_slotP hκ, e_hasP hκ] mixed [] Try.func41 rfl (by kernel_rfl) #[.pointer (some ⟨b, 0, none⟩), .int .i64 h0, .int .i64 word] [(0, .c (.loc 200000 b 0)), (1, .c (.v (.int .i64 h0))), (2, .c (.v (.int .i64 word)))] _ w rfl [.tmp 6] rfl (by simp) (by simp [SV.den, C.den]) hH' (fun v H' => IsA (κ _ (r_cellP fi l s d h0 word).den) (κ _ (some (blkP b fi 200001 A l.length c (s) (d)))) (κ _ (some (.row A c 84 2 l.length (encS (l))))) v (H' 200000) (H' 200001)) hκ ?_).mono ?_
  rotate_left
  · subst hκ; intro e w' h; exact h
  cbv
  repeat' (first | refine And.intro ?_ ?_ | (intro _; cbv) | (refine tst_mk (fun h => ?_) (fun h => ?_) <;> cbv) | (refine LookX.mk' (x := l) (by subst hκ; rfl) ?_; cbv))
  all_goals subst hκ
  all_goals (try delta kid at *)
  all_goals (try (exact ⟨trivial⟩))
  all_goals (try (exact ⟨by decide⟩))
  all_goals (try (exact ⟨⟨rfl, rfl, rfl, rfl⟩⟩))
  all_goals (try (exact ⟨⟨rfl, rfl, rfl, rfl, rfl, rfl, rfl⟩⟩))
  all_goals (try (exact ⟨⟨rfl, hl⟩⟩))
  all_goals (try (exact ⟨⟨rfl, rfl, hl⟩⟩))
  all_goals (try (exact ⟨rfl⟩))
  all_goals (try (exact ⟨‹_›⟩))
  all_goals refine ⟨⟨?_, rfl, rfl⟩⟩
  all_goals simp only [r_cellP, SV.den, C.den, cellP, GT.gt, GE.ge]
  all_goals (try simp only [*, Bool.not_true, Bool.not_false, Bool.or_true, Bool.true_or, Bool.or_false, Bool.false_or, if_true, if_false, Bool.false_eq_true])
  all_goals (try rfl)
  all_goals (try (simp_all; done))
  all_goals trace_state
  all_goals sorry
def e_cellP {κ : Kp} (hκ : κ = kid) : ESpec Try.prog := parES b_cellP F_cellP false (fun _ fi l s d rest p v o hF => by unfold F_cellP at hF; split at hF <;> first | (injection hF with hF; injection hF with _ hF; injection hF with _ hF; exact hF.symm) | cases hF) hκ fun fi l s d rest p v o hF hp hl b A c w hH => by
  unfold F_cellP at hF
  split at hF
  · rename_i h0 word
    simp only [kid, Option.some.injEq, Prod.mk.injEq] at hF
    obtain ⟨rfl, rfl, rfl⟩ := hF
    exact (k_cellP fi l s d h0 word hp hl b A c w hH).mono fun e w' ⟨v, H', he, ⟨hr⟩, hh⟩ => ⟨H', by rw [he, hr.1]; rfl, hh, hr.2.1, hr.2.2⟩
  · cases hF

theorem b_rightP : Bodied Try.prog 47 := bodied Try.func47 rfl (by decide)
def r_rightP (fi : Int) (l : List St) (s d : Bool) (h0 : Int) : SV := .c (.v (.bool (rightP l h0)))
def F_rightP : Fun02 := fun κ fi l s d rest => match rest with
  | [.c (.v (.int .i64 h0))] => some (κ _ (True), .c (.v (.bool (κ _ (rightP l h0)))), none)
  | _ => none
set_option maxRecDepth 100000 in
set_option maxHeartbeats 4000000 in
theorem k_rightP (fi : Int) (l : List St) (s d : Bool) (h0 : Int) (hside : True) (hl : l.length ≤ 1000) (b : Nat) (A : Option Addr) (c : Nat) (w : World) (hH : HSat w (mutE (EP kid b fi l s d A c)) (heapOf (EP kid b fi l s d A c)) w) :
    Calls Try.prog 47 #[.pointer (some ⟨b, 0, none⟩), .int .i64 h0] w fun e w' => ∃ v H', e = .returned v.den ∧ IsA (r_rightP fi l s d h0).den (some (blkP b fi 200001 A l.length c (s) (d))) (some (.row A c 84 2 l.length (encS (l)))) v (H' 200000) (H' 200001) ∧ HSat w (mutE (EP kid b fi l s d A c)) H' w' := by
  obtain ⟨κ, hκ⟩ : ∃ κ : Kp, κ = kid := ⟨_, rfl⟩
  have hH' : HSat w (mutE (EP kid b fi l s d A c)) (heapOf (EP κ b fi l s d A c)) w := by subst hκ; exact hH
  refine (callsE (n := 29) FTok [e_slotP hκ, e_hasP hκ, e_handleP hκ] mixed [] Try.func47 rfl (by kernel_rfl) #[.pointer (some ⟨b, 0, none⟩), .int .i64 h0] [(0, .c (.loc 200000 b 0)), (1, .c (.v (.int .i64 h0)))] _ w rfl [.tmp 4] rfl (by simp) (by simp [SV.den, C.den]) hH' (fun v H' => IsA (κ _ (r_rightP fi l s d h0).den) (κ _ (some (blkP b fi 200001 A l.length c (s) (d)))) (κ _ (some (.row A c 84 2 l.length (encS (l))))) v (H' 200000) (H' 200001)) hκ ?_).mono ?_
  rotate_left
  · subst hκ; intro e w' h; exact h
  cbv
  repeat' (first | refine And.intro ?_ ?_ | (intro _; cbv) | (refine tst_mk (fun h => ?_) (fun h => ?_) <;> cbv) | (refine LookX.mk' (x := l) (by subst hκ; rfl) ?_; cbv) | (refine LookR.mk' (x := .v (.bool (κ _ (vAt l (slotP h0))))) (by subst hκ; delta kid at *; exact st_v (by assumption) hl) ?_; cbv))
  all_goals subst hκ
  all_goals (try delta kid at *)
  all_goals (try (exact ⟨trivial⟩))
  all_goals (try (exact ⟨by decide⟩))
  all_goals (try (exact ⟨⟨rfl, rfl, rfl, rfl⟩⟩))
  all_goals (try (exact ⟨⟨rfl, rfl, rfl, rfl, rfl, rfl, rfl⟩⟩))
  all_goals (try (exact ⟨⟨rfl, hl⟩⟩))
  all_goals (try (exact ⟨⟨rfl, rfl, hl⟩⟩))
  all_goals (try (exact ⟨rfl⟩))
  all_goals (try (exact ⟨‹_›⟩))
  all_goals (try (exact ⟨st_ix (by assumption) hl 2 (by decide)⟩))
  all_goals refine ⟨⟨?_, rfl, rfl⟩⟩
  all_goals (simp_all [r_rightP, SV.den, C.den, rightP])
def e_rightP {κ : Kp} (hκ : κ = kid) : ESpec Try.prog := parES b_rightP F_rightP false (fun _ fi l s d rest p v o hF => by unfold F_rightP at hF; split at hF <;> first | (injection hF with hF; injection hF with _ hF; injection hF with _ hF; exact hF.symm) | cases hF) hκ fun fi l s d rest p v o hF hp hl b A c w hH => by
  unfold F_rightP at hF
  split at hF
  · rename_i h0
    simp only [kid, Option.some.injEq, Prod.mk.injEq] at hF
    obtain ⟨rfl, rfl, rfl⟩ := hF
    exact (k_rightP fi l s d h0 hp hl b A c w hH).mono fun e w' ⟨v, H', he, ⟨hr⟩, hh⟩ => ⟨H', by rw [he, hr.1]; rfl, hh, hr.2.1, hr.2.2⟩
  · cases hF

theorem b_bornP : Bodied Try.prog 46 := bodied Try.func46 rfl (by decide)
def r_bornP (fi : Int) (l : List St) (s d : Bool) (slot : Int) : SV := .c (.v (.int .i64 (bornV l slot)))
def F_bornP : Fun02 := fun κ fi l s d rest => match rest with
  | [.c (.v (.int .i64 slot))] => some (κ _ (True), .c (.v (.int .i64 (κ _ (bornV l slot)))), some (κ _ (bornL l slot), κ _ (s), κ _ (bornD l d slot)))
  | _ => none
set_option maxRecDepth 100000 in
set_option maxHeartbeats 4000000 in
theorem k_bornP (fi : Int) (l : List St) (s d : Bool) (slot : Int) (hside : True) (hl : l.length ≤ 1000) (b : Nat) (A : Option Addr) (c : Nat) (w : World) (hH : HSat w (mutE (EP kid b fi l s d A c)) (heapOf (EP kid b fi l s d A c)) w) :
    Calls Try.prog 46 #[.pointer (some ⟨b, 0, none⟩), .int .i64 slot] w fun e w' => ∃ v H', e = .returned v.den ∧ IsA (r_bornP fi l s d slot).den (some (blkP b fi 200001 A l.length c (s) (bornD l d slot))) (some (.row A c 84 2 l.length (encS (bornL l slot)))) v (H' 200000) (H' 200001) ∧ HSat w (mutE (EP kid b fi l s d A c)) H' w' := by
  obtain ⟨κ, hκ⟩ : ∃ κ : Kp, κ = kid := ⟨_, rfl⟩
  have hH' : HSat w (mutE (EP kid b fi l s d A c)) (heapOf (EP κ b fi l s d A c)) w := by subst hκ; exact hH
  refine (callsE (n := 43) FTok [e_hasP hκ, e_handleP hκ] mixed [] Try.func46 rfl (by kernel_rfl) #[.pointer (some ⟨b, 0, none⟩), .int .i64 slot] [(0, .c (.loc 200000 b 0)), (1, .c (.v (.int .i64 slot)))] _ w rfl [.tmp 4] rfl (by simp) (by simp [SV.den, C.den]) hH' (fun v H' => IsA (κ _ (r_bornP fi l s d slot).den) (κ _ (some (blkP b fi 200001 A l.length c (s) (bornD l d slot)))) (κ _ (some (.row A c 84 2 l.length (encS (bornL l slot))))) v (H' 200000) (H' 200001)) hκ ?_).mono ?_
  rotate_left
  · subst hκ; intro e w' h; exact h
  cbv
  repeat' (first | refine And.intro ?_ ?_ | (intro _; cbv) | (refine tst_mk (fun h => ?_) (fun h => ?_) <;> cbv) | (refine LookX.mk' (x := l) (by subst hκ; rfl) ?_; cbv) | (refine LookR.mk' (x := .v (.bool (κ _ (vAt l slot)))) (by subst hκ; delta kid at *; exact st_v (by assumption) hl) ?_; cbv) | (refine LookR.mk' (x := .v (.int .i64 (κ _ (gAt l slot)))) (by subst hκ; delta kid at *; exact born_g (by assumption) hl) ?_; cbv) | (refine LookX.mk' (x := κ _ (bornL l slot)) (by subst hκ; delta kid at *; exact born_enc (by assumption) hl) ?_; cbv))
  all_goals subst hκ
  all_goals (try delta kid at *)
  all_goals (try (exact ⟨trivial⟩))
  all_goals (try (exact ⟨by decide⟩))
  all_goals (try (exact ⟨⟨rfl, rfl, rfl, rfl⟩⟩))
  all_goals (try (exact ⟨⟨rfl, rfl, rfl, rfl, rfl, rfl, rfl⟩⟩))
  all_goals (try (exact ⟨⟨rfl, hl⟩⟩))
  all_goals (try (exact ⟨⟨rfl, rfl, hl⟩⟩))
  all_goals (try (exact ⟨rfl⟩))
  all_goals (try (exact ⟨‹_›⟩))
  all_goals (try (exact ⟨st_ix (by assumption) hl 2 (by decide)⟩))
  all_goals (try (exact ⟨⟨bornL_len _ _, by rw [bornL_len]; exact hl⟩⟩))
  all_goals (try (exact ⟨by rw [bornL_len]; assumption⟩))
  all_goals (try (exact ⟨put_lt (by assumption) hl 1 (by decide)⟩))
  all_goals (try (exact ⟨put_lt2 (by assumption) hl 0 (by decide) true⟩))
  all_goals (refine ⟨⟨?_, ?_, ?_⟩⟩)
  all_goals (try rw [born_enc (by assumption) hl])
  all_goals (simp_all [r_bornP, SV.den, C.den, bornV, bornD, blkP])
  all_goals (try (unfold bornL; simp_all))

def e_bornP {κ : Kp} (hκ : κ = kid) : ESpec Try.prog := parES b_bornP F_bornP true (fun h => by cases h) hκ fun fi l s d rest p v o hF hp hl b A c w hH => by
  unfold F_bornP at hF
  split at hF
  · rename_i slot
    simp only [kid, Option.some.injEq, Prod.mk.injEq] at hF
    obtain ⟨rfl, rfl, rfl⟩ := hF
    exact (k_bornP fi l s d slot hp hl b A c w hH).mono fun e w' ⟨v, H', he, ⟨hr⟩, hh⟩ => ⟨H', by rw [he, hr.1]; rfl, hh, hr.2.1, hr.2.2⟩
  · cases hF

theorem b_diedP : Bodied Try.prog 48 := bodied Try.func48 rfl (by decide)
def r_diedP (fi : Int) (l : List St) (s d : Bool) (h0 : Int) : SV := .tup []
def F_diedP : Fun02 := fun κ fi l s d rest => match rest with
  | [.c (.v (.int .i64 h0))] => some (κ _ (True), .tup [], some (κ _ (diedL l h0), κ _ (s), κ _ (diedD l d h0)))
  | _ => none
set_option maxRecDepth 100000 in
set_option maxHeartbeats 4000000 in
theorem k_diedP (fi : Int) (l : List St) (s d : Bool) (h0 : Int) (hside : True) (hl : l.length ≤ 1000) (b : Nat) (A : Option Addr) (c : Nat) (w : World) (hH : HSat w (mutE (EP kid b fi l s d A c)) (heapOf (EP kid b fi l s d A c)) w) :
    Calls Try.prog 48 #[.pointer (some ⟨b, 0, none⟩), .int .i64 h0] w fun e w' => ∃ v H', e = .returned v.den ∧ IsA (r_diedP fi l s d h0).den (some (blkP b fi 200001 A l.length c (s) (diedD l d h0))) (some (.row A c 84 2 l.length (encS (diedL l h0)))) v (H' 200000) (H' 200001) ∧ HSat w (mutE (EP kid b fi l s d A c)) H' w' := by
  obtain ⟨κ, hκ⟩ : ∃ κ : Kp, κ = kid := ⟨_, rfl⟩
  have hH' : HSat w (mutE (EP kid b fi l s d A c)) (heapOf (EP κ b fi l s d A c)) w := by subst hκ; exact hH
  refine (callsE (n := 20) FTok [e_rightP hκ, e_slotP hκ] mixed [(2, [[], [], [], [], [0, 1, 2, 3], [0, 1, 2, 3], [0, 1, 2, 3], [], [], []])] Try.func48 rfl (by kernel_rfl) #[.pointer (some ⟨b, 0, none⟩), .int .i64 h0] [(0, .c (.loc 200000 b 0)), (1, .c (.v (.int .i64 h0)))] _ w rfl [] rfl (by simp) (by simp [SV.den, C.den]) hH' (fun v H' => IsA (κ _ (r_diedP fi l s d h0).den) (κ _ (some (blkP b fi 200001 A l.length c (s) (diedD l d h0)))) (κ _ (some (.row A c 84 2 l.length (encS (diedL l h0))))) v (H' 200000) (H' 200001)) hκ ?_).mono ?_
  rotate_left
  · subst hκ; intro e w' h; exact h
  cbv
  repeat' (first | refine And.intro ?_ ?_ | (intro _; cbv) | (refine tst_mk (fun h => ?_) (fun h => ?_) <;> cbv) | (refine LookX.mk' (x := l) (by subst hκ; rfl) ?_; cbv))
  all_goals subst hκ
  all_goals (try delta kid at *)
  all_goals (try (exact ⟨trivial⟩))
  all_goals (try (exact ⟨by decide⟩))
  all_goals (try (exact ⟨⟨rfl, rfl, rfl, rfl⟩⟩))
  all_goals (try (exact ⟨⟨rfl, rfl, rfl, rfl, rfl, rfl, rfl⟩⟩))
  all_goals (try (exact ⟨⟨rfl, hl⟩⟩))
  all_goals (try (exact ⟨⟨rfl, rfl, hl⟩⟩))
  all_goals (try (exact ⟨rfl⟩))
  all_goals (try (exact ⟨‹_›⟩))
  all_goals (try (exact ⟨st_ix (right_has (by assumption)) hl 2 (by decide)⟩))
  all_goals (try (exact ⟨put_lt (right_has (by assumption)) hl 1 (by decide)⟩))
  all_goals (refine ⟨⟨?_, ?_, ?_⟩⟩)
  all_goals (try rfl)
  all_goals (try rw [put_v (right_has (by assumption)) hl])
  all_goals (simp_all [diedL, diedD, blkP])

def e_diedP {κ : Kp} (hκ : κ = kid) : ESpec Try.prog := parES b_diedP F_diedP true (fun h => by cases h) hκ fun fi l s d rest p v o hF hp hl b A c w hH => by
  unfold F_diedP at hF
  split at hF
  · rename_i h0
    simp only [kid, Option.some.injEq, Prod.mk.injEq] at hF
    obtain ⟨rfl, rfl, rfl⟩ := hF
    exact (k_diedP fi l s d h0 hp hl b A c w hH).mono fun e w' ⟨v, H', he, ⟨hr⟩, hh⟩ => ⟨H', by rw [he, hr.1]; rfl, hh, hr.2.1, hr.2.2⟩
  · cases hF

theorem b_touchP : Bodied Try.prog 54 := bodied Try.func54 rfl (by decide)
def r_touchP (fi : Int) (l : List St) (s d : Bool) (h0 : Int) : SV := .tup []
def F_touchP : Fun02 := fun κ fi l s d rest => match rest with
  | [.c (.v (.int .i64 h0))] => some (κ _ (True), .tup [], some (κ _ (l), κ _ (touchS l s h0), κ _ (d)))
  | _ => none
set_option maxRecDepth 100000 in
set_option maxHeartbeats 4000000 in
theorem k_touchP (fi : Int) (l : List St) (s d : Bool) (h0 : Int) (hside : True) (hl : l.length ≤ 1000) (b : Nat) (A : Option Addr) (c : Nat) (w : World) (hH : HSat w (mutE (EP kid b fi l s d A c)) (heapOf (EP kid b fi l s d A c)) w) :
    Calls Try.prog 54 #[.pointer (some ⟨b, 0, none⟩), .int .i64 h0] w fun e w' => ∃ v H', e = .returned v.den ∧ IsA (r_touchP fi l s d h0).den (some (blkP b fi 200001 A l.length c (touchS l s h0) (d))) (some (.row A c 84 2 l.length (encS (l)))) v (H' 200000) (H' 200001) ∧ HSat w (mutE (EP kid b fi l s d A c)) H' w' := by
  obtain ⟨κ, hκ⟩ : ∃ κ : Kp, κ = kid := ⟨_, rfl⟩
  have hH' : HSat w (mutE (EP kid b fi l s d A c)) (heapOf (EP κ b fi l s d A c)) w := by subst hκ; exact hH
  refine (callsE (n := 11) FTok [e_rightP hκ] mixed [] Try.func54 rfl (by kernel_rfl) #[.pointer (some ⟨b, 0, none⟩), .int .i64 h0] [(0, .c (.loc 200000 b 0)), (1, .c (.v (.int .i64 h0)))] _ w rfl [] rfl (by simp) (by simp [SV.den, C.den]) hH' (fun v H' => IsA (κ _ (r_touchP fi l s d h0).den) (κ _ (some (blkP b fi 200001 A l.length c (touchS l s h0) (d)))) (κ _ (some (.row A c 84 2 l.length (encS (l))))) v (H' 200000) (H' 200001)) hκ ?_).mono ?_
  rotate_left
  · subst hκ; intro e w' h; exact h
  cbv
  repeat' (first | refine And.intro ?_ ?_ | (intro _; cbv) | (refine tst_mk (fun h => ?_) (fun h => ?_) <;> cbv) | (refine LookX.mk' (x := l) (by subst hκ; rfl) ?_; cbv))
  all_goals subst hκ
  all_goals (try delta kid at *)
  all_goals (try (exact ⟨trivial⟩))
  all_goals (try (exact ⟨by decide⟩))
  all_goals (try (exact ⟨⟨rfl, rfl, rfl, rfl⟩⟩))
  all_goals (try (exact ⟨⟨rfl, rfl, rfl, rfl, rfl, rfl, rfl⟩⟩))
  all_goals (try (exact ⟨⟨rfl, hl⟩⟩))
  all_goals (try (exact ⟨⟨rfl, rfl, hl⟩⟩))
  all_goals (try (exact ⟨rfl⟩))
  all_goals (try (exact ⟨‹_›⟩))
  all_goals (refine ⟨⟨?_, ?_, ?_⟩⟩)
  all_goals (try rfl)
  all_goals (simp_all [touchS, blkP])

def e_touchP {κ : Kp} (hκ : κ = kid) : ESpec Try.prog := parES b_touchP F_touchP true (fun h => by cases h) hκ fun fi l s d rest p v o hF hp hl b A c w hH => by
  unfold F_touchP at hF
  split at hF
  · rename_i h0
    simp only [kid, Option.some.injEq, Prod.mk.injEq] at hF
    obtain ⟨rfl, rfl, rfl⟩ := hF
    exact (k_touchP fi l s d h0 hp hl b A c w hH).mono fun e w' ⟨v, H', he, ⟨hr⟩, hh⟩ => ⟨H', by rw [he, hr.1]; rfl, hh, hr.2.1, hr.2.2⟩
  · cases hF

end Go.Proofs.Ytjlgeoaomegbmaa.Eng
