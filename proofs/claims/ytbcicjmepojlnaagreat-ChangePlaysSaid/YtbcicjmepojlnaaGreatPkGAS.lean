/- Texts of this work, laid together: symbolic execution over the model, contracts of the program's functions, what they come to; conditions: as each says. -/
import Derived.Test.YtbcicjmepojlnaaGreatPkGAR
/- Contracts of functions (printed by genx.py of this work): what each hands back; condition: as its 'hside' says. -/
namespace Go.Proofs.YtbcicjmepojlnaaGreat.Eng
open Go Go.RowKit
set_option linter.unusedVariables false
set_option linter.unusedSimpArgs false
theorem b_rlist : Bodied Tryz.prog 93 := bodied Tryz.func93 rfl (by decide)
def F_rlist : FunX := fun κ avs => match avs with
  | [.spc s] => some (κ _ (True), (.row 49 6 ((κ _ ((listS s).length))) ((κ _ (encL (listS s)))) (fun x => .c x)))
  | _ => none
set_option maxRecDepth 100000 in
set_option maxHeartbeats 4000000 in
theorem k_rlist (s : List Pg) (hside : True) (ns : s.length = 512) (w : World) :
    Calls Tryz.prog 93 #[(SV.agg (encS s)).den] w fun e w' => ∃ v H', e = .returned v.den ∧ IsX (.row 49 6 (((listS s).length)) ((encL (listS s))) (fun x => .c x)) v H' ∧ HSat w (fun _ => False) H' w' := by
  obtain ⟨κ, hκ⟩ : ∃ κ : Kp, κ = kid := ⟨_, rfl⟩
  have hH : HSat w (fun _ => False) (heapOf [(nilId, .rd none 1 0 [])]) w := by
    subst hκ
    refine HSat.reads fun p hp => ?_
    simp only [List.mem_cons, List.not_mem_nil, or_false] at hp
    rcases hp with rfl
    · exact ⟨_, _, _, _, rfl, nil_holds w⟩
  refine (callsP (n := 73) FTok [e_after hκ] mixed [(7, [[], [], [], [], [3], [3], [], [], [], [3, 4, 5, 6, 7, 8], [3, 4, 5, 6, 7, 8], [], [], [], [], [], [], [], [], [14, 15, 16, 17, 18], [14, 15, 16, 17, 18], [14, 15, 16, 17, 18], [14, 15, 16, 17, 18], [], []])] Tryz.func93 rfl (by kernel_rfl) #[(SV.agg (encS s)).den] [(0, .agg (κ _ (encS s)))] _ w rfl [.tmp 2] rfl (by simp) (by subst hκ; simp [SV.den, C.den, kid]) hH (fun v H' => IsX (.row 49 6 ((κ _ ((listS s).length))) ((κ _ (encL (listS s)))) (fun x => .c x)) v H') hκ ?_).mono ?_
  rotate_left
  · subst hκ; intro e w' h; exact h
  intro P' hP'
  cbv
  repeat' (first | refine And.intro ?_ ?_ | (intro _; cbv) | (refine tst_mk (fun h => ?_) (fun h => ?_) <;> cbv) | (refine LookX.nil ?_; cbv) | (refine LookX.auto hκ ?_; cbv))
  all_goals (try (show _ = true; subst hκ; delta kid; (have ho := encS_ok (s); generalize encS (s) = xs at ho ⊢; cases xs <;> exact ho)))
  rename_i b1
  refine loopP hP' FTok [e_after hκ] mixed [1] (σ := {q : Nat × Option Addr × Nat // q.1 ≤ 496}) (fun q => [(3, .c (.sl 300000 q.1.2.1 (κ _ (listN s q.1.1).length) q.1.2.2)), (4, .c (.v (.int .i64 (κ _ ((16 + q.1.1 : Nat) : Int)))))]) (fun q => [(1, .blk b1 90 (κ _ (encS s))), (300000, .row q.1.2.1 q.1.2.2 49 6 (κ _ (listN s q.1.1).length) (κ _ (encL (listN s q.1.1))))]) (fun q => 496 - q.1.1) ⟨(0, none, 0), Nat.zero_le _⟩ [1, 999999] ?_ (by decide) ?_ hκ ?_
  · cbv
    all_goals (subst hκ; delta kid; repeat' (first | exact rfl | exact trivial | refine And.intro ?_ ?_))
  · cbv
    all_goals (subst hκ; delta kid; repeat' (first | exact rfl | exact trivial | refine And.intro ?_ ?_))
  rintro ⟨⟨n, A2, c2⟩, hn⟩
  cbv
  refine tst_mk (fun h => ?_) (fun h => ?_)
  · have hm : 16 + n < 512 := by subst hκ; delta kid at h; have h2 : ((16 + n : Nat) : Int) < 512 := of_decide_eq_true h; omega
    have hl2 := listN_le s n
    have hl3 : (listN s n).length ≤ 1000000 := by have hn2 : n ≤ 496 := hn; omega
    have hen := encL_len (listN s n)
    cbv
    repeat' (first | refine And.intro ?_ ?_ | (intro _; cbv) | (refine tst_mk (fun h => ?_) (fun h => ?_) <;> cbv) | (refine LookX.nil ?_; cbv) | (refine LookX.auto hκ ?_; cbv) | (refine LookR.mk' (x := .v (.bool (κ _ (nthP s (16 + n)).is))) (by subst hκ; delta kid at *; exact page_is' ns hm) ?_; cbv) | (refine LookR.mk' (x := .v (.int .i64 (κ _ (nthA (listN s n) ((listN s n).length - 1)).e))) (by subst hκ; delta kid at *; exact last_e (by assumption) hl3) ?_; cbv) | (refine LookN.mk' (x := [.v (.int .i64 (κ _ (nthP s (16 + n - 1)).t.p)), .v (.bool (κ _ (nthP s (16 + n - 1)).t.sh)), .v (.int .i64 (κ _ (nthP s (16 + n - 1)).t.b)), .v (.int .i64 (κ _ (nthP s (16 + n - 1)).t.o))]) (by subst hκ; delta kid at *; exact page_pre ns (by omega) hm) ?_; cbv) | (refine LookN.mk' (x := [.v (.int .i64 (κ _ (nthP s (16 + n)).t.p)), .v (.bool (κ _ (nthP s (16 + n)).t.sh)), .v (.int .i64 (κ _ (nthP s (16 + n)).t.b)), .v (.int .i64 (κ _ (nthP s (16 + n)).t.o))]) (by subst hκ; delta kid at *; exact page_attr' ns hm) ?_; cbv))
    all_goals (try (show Side _; refine ⟨?_⟩; subst hκ; delta kid at *; first | exact rfl | exact trivial | exact ⟨rfl, rfl, .inl rfl⟩ | ((try dsimp only at *); (try simp only [setTo_len, noS_len, List.length_append, List.length_cons, List.length_nil, List.length_map, and_self, true_or, or_true, eq_self, true_and, and_true, Nat.zero_add, Nat.add_zero]); (first | done | omega); done)))
    all_goals (clear hH; subst hκ; delta kid at *; (try dsimp only at *))
    all_goals (try (exact ⟨page_ix hm⟩))
    all_goals (try (exact ⟨last_in (by assumption) hl3⟩))
    all_goals (try (exact ⟨pre_ix' (by omega) hm⟩))
    all_goals (try (exact ⟨Nat.zero_lt_one, lst_fit (by assumption) hl3⟩))
    all_goals (try (refine ⟨?_⟩; simp only [maxLen]; omega))
    all_goals (try (exact ⟨⟨rfl, rfl, .inl rfl, rfl⟩⟩))
    all_goals (try (exact ⟨⟨rfl, rfl, rfl, rfl, rfl⟩⟩))
    · rename_i h1 h2 h3 h4
      have hv := lst_yes hm h2 h3 h4 h
      refine ⟨⟨⟨(n + 1, A2, c2), (by show n + 1 ≤ 496; omega)⟩, [1, 300000], (by show 496 - (n + 1) < 496 - n; omega), by decide, ?_, ?_⟩⟩
      all_goals repeat' (first | exact rfl | exact trivial | refine And.intro ?_ ?_ | exact lst_len2 h3 hv | exact congrArg (fun n => Value.slice A2 n c2) (lst_len2 h3 hv) | exact (last_set_e h3 hl3 _).trans (congrArg encL hv.symm) | exact congrArg (Value.int .i64) (page_succ hm))
    · rename_i A3 c3 h1 h2 h3 h4
      have hv := lst_no1 hm h2 h3 h
      refine ⟨⟨⟨(n + 1, A3, c3), (by show n + 1 ≤ 496; omega)⟩, [1, 71], (by show 496 - (n + 1) < 496 - n; omega), by decide, ?_, ?_⟩⟩
      all_goals repeat' (first | exact rfl | exact trivial | refine And.intro ?_ ?_ | exact lst_len1 hv | exact congrArg (fun n => Value.slice A3 n c3) (lst_len1 hv) | exact lst_enc1 hv | exact congrArg (Value.int .i64) (page_succ hm))
    · rename_i A3 c3 h1 h2 h3
      have hv := lst_no2 hm h2 h3 h
      refine ⟨⟨⟨(n + 1, A3, c3), (by show n + 1 ≤ 496; omega)⟩, [1, 71], (by show 496 - (n + 1) < 496 - n; omega), by decide, ?_, ?_⟩⟩
      all_goals repeat' (first | exact rfl | exact trivial | refine And.intro ?_ ?_ | exact lst_len1 hv | exact congrArg (fun n => Value.slice A3 n c3) (lst_len1 hv) | exact lst_enc1 hv | exact congrArg (Value.int .i64) (page_succ hm))
    · rename_i A3 c3 h1 h2
      have hv := lst_no3 hm h2 h
      refine ⟨⟨⟨(n + 1, A3, c3), (by show n + 1 ≤ 496; omega)⟩, [1, 71], (by show 496 - (n + 1) < 496 - n; omega), by decide, ?_, ?_⟩⟩
      all_goals repeat' (first | exact rfl | exact trivial | refine And.intro ?_ ?_ | exact lst_len1 hv | exact congrArg (fun n => Value.slice A3 n c3) (lst_len1 hv) | exact lst_enc1 hv | exact congrArg (Value.int .i64) (page_succ hm))
    · have hv := lst_not h
      refine ⟨⟨⟨(n + 1, A2, c2), (by show n + 1 ≤ 496; omega)⟩, [1, 300000], (by show 496 - (n + 1) < 496 - n; omega), by decide, ?_, ?_⟩⟩
      all_goals repeat' (first | exact rfl | exact trivial | refine And.intro ?_ ?_ | exact congrArg List.length hv.symm | exact congrArg encL hv.symm | exact congrArg (fun l => Value.slice A2 (List.length l) c2) hv.symm | exact congrArg (Value.int .i64) (page_succ hm))
  · have hm : n = 496 := by subst hκ; delta kid at h; have h2 : ¬ ((16 + n : Nat) : Int) < 512 := of_decide_eq_false h; have hn2 : n ≤ 496 := hn; omega
    subst hm
    cbv
    all_goals (clear hH; subst hκ; delta kid at *; (try dsimp only at *))
    exact IsX.row_ rfl rfl rfl
def e_rlist {κ : Kp} (hκ : κ = kid) : ESpec Tryz.prog := fnES [.space] b_rlist F_rlist hκ fun avs p r hF hp => by
  unfold F_rlist at hF
  split at hF
  case h_2 => cases hF
  rename_i s
  simp only [kid, Option.some.injEq, Prod.mk.injEq] at hF
  obtain ⟨rfl, rfl⟩ := hF
  refine ⟨fun x y h => by simp [SV.den, SV.den0, h], fun vs w hR => ?_⟩
  obtain ⟨vs0, rfl, ns, hR⟩ := hR
  have hR' : vs0 = [] := hR
  subst hR'
  exact k_rlist s hp ns w
end Go.Proofs.YtbcicjmepojlnaaGreat.Eng
