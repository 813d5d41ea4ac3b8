/- Texts of this work, laid together: symbolic execution over the model, contracts of the program's functions, what they come to; conditions: as each says. -/
import Derived.Test.YtbcicjmepojlnaaPkYAR
/- Contracts of functions (printed by genx.py of this work): what each hands back; condition: as its 'hside' says. -/
namespace Go.Proofs.Ytbcicjmepojlnaa.Eng
open Go Go.RowKit
set_option linter.unusedVariables false
set_option linter.unusedSimpArgs false
theorem b_made : Bodied Try.prog 47 := bodied Try.func47 rfl (by decide)
def F_made : FunX := fun κ avs => match avs with
  | [.lstc l xl] => some (κ _ (l.length ≤ 300000), (.row 53 6 ((κ _ ((madeL l).length))) ((κ _ (encL (madeL l)))) (fun x => .c x)))
  | _ => none
set_option maxRecDepth 100000 in
set_option maxHeartbeats 4000000 in
theorem k_made (l : List Ar) (Al : Option Addr) (cl : Nat) (kl : l.length ≤ cl) (hside : l.length ≤ 300000) (w : World) (hl : (Ent.rd Al 6 l.length (encL l)).holds w) :
    Calls Try.prog 47 #[.slice Al l.length cl] w fun e w' => ∃ v H', e = .returned v.den ∧ IsX (.row 53 6 (((madeL l).length)) ((encL (madeL l))) (fun x => .c x)) v H' ∧ HSat w (fun _ => False) H' w' := by
  obtain ⟨κ, hκ⟩ : ∃ κ : Kp, κ = kid := ⟨_, rfl⟩
  have hH : HSat w (fun _ => False) (heapOf [(nilId, .rd none 1 0 []), (200000, .rd Al 6 (κ _ l.length) (κ _ (encL l)))]) w := by
    subst hκ
    refine HSat.reads fun p hp => ?_
    simp only [List.mem_cons, List.not_mem_nil, or_false] at hp
    rcases hp with rfl | rfl
    · exact ⟨_, _, _, _, rfl, nil_holds w⟩
    · exact ⟨_, _, _, _, rfl, hl⟩
  refine (callsP (n := 44) FTok [e_refF hκ, e_of hκ, e_rlist hκ] mixed [] Try.func47 rfl (by kernel_rfl) #[.slice Al l.length cl] [(0, .c (.sl 200000 Al (κ _ l.length) cl))] _ w rfl [.tmp 2] rfl (by simp) (by subst hκ; simp [SV.den, C.den, kid]) hH (fun v H' => IsX (.row 53 6 ((κ _ ((madeL l).length))) ((κ _ (encL (madeL l)))) (fun x => .c x)) v H') hκ ?_).mono ?_
  rotate_left
  · subst hκ; intro e w' h; exact h
  intro P' hP'
  cbv
  repeat' (first | refine And.intro ?_ ?_ | (intro _; cbv) | (refine tst_mk (fun h => ?_) (fun h => ?_) <;> cbv) | (refine LookX.nil ?_; cbv) | (refine LookX.auto hκ ?_; cbv))
  rename_i b3
  refine loopP hP' FTok [e_refF hκ, e_of hκ, e_rlist hκ] mixed [0, 3] (σ := {i : Nat // i ≤ 40}) (fun q => [(4, .c (.v (.int .i64 (κ _ ((q.1 : Nat) : Int)))))]) (fun q => [(200000, .rd Al 6 (κ _ l.length) (κ _ (encL l))), (3, .blk b3 37 (κ _ (encS (madeT (l.take q.1)))))]) (fun q => 40 - q.1) ⟨0, Nat.zero_le _⟩ [200000, 3] ?_ (by decide) ?_ hκ ?_
  · cbv
    all_goals (subst hκ; delta kid; repeat' (first | exact rfl | exact trivial | refine And.intro ?_ ?_))
  · cbv
    all_goals (subst hκ; delta kid; repeat' (first | exact rfl | exact trivial | refine And.intro ?_ ?_ | exact congrArg (List.map C.den) encS_noS))
  rintro ⟨i, hi4⟩
  have hi6 : i ≤ 1000000 := by omega
  cbv
  refine tst_mk (fun h => ?_) (fun h => ?_) <;> cbv
  · have hx : i < l.length := by subst hκ; delta kid at h; have h2 : (i : Int) < (l.length : Int) := of_decide_eq_true h; omega
    refine tst_mk (fun h => ?_) (fun h => ?_) <;> cbv
    · have hx4 : i < 40 := by subst hκ; delta kid at h; have h2 : (i : Int) < 40 := of_decide_eq_true h; omega
      repeat' (first | refine And.intro ?_ ?_ | (intro _; cbv) | (refine tst_mk (fun h => ?_) (fun h => ?_) <;> cbv) | (refine LookX.nil ?_; cbv) | (refine LookX.auto hκ ?_; cbv) | (refine LookN.mk' (x := [.v (.int .i64 (κ _ (nthA l i).s)), .v (.int .i64 (κ _ (nthA l i).e)), .v (.int .i64 (κ _ (nthA l i).p)), .v (.bool (κ _ (nthA l i).sh)), .v (.int .i64 (κ _ (nthA l i).b)), .v (.int .i64 (κ _ (nthA l i).o))]) (by subst hκ; delta kid at *; exact la_take hx) ?_; cbv) | (refine LookX.mk' (x := κ _ [nthA l i]) (by subst hκ; delta kid at *; exact slice_one hx hi6) ?_; cbv))
      all_goals (try (show Side _; refine ⟨?_⟩; subst hκ; delta kid at *; first | exact rfl | exact trivial | exact ⟨rfl, rfl, .inl rfl⟩ | exact la_ix hx | exact slice_b hx hi6 | exact ⟨rfl, slice_n hi6, .inl rfl⟩ | exact (slice_n hi6).symm | exact ⟨rfl, rfl, rfl, kl⟩ | exact ⟨rfl, rfl, .inl rfl, kl⟩ | ((try dsimp only at *); (try simp only [setTo_len, noS_len, List.length_append, List.length_cons, List.length_nil, List.length_map, and_self, true_or, or_true, eq_self, true_and, and_true, Nat.zero_add, Nat.add_zero]); (first | done | omega); done)))
      · rename_i b6 h
        have hf : formed (nthA l i) = true := by subst hκ; delta kid at h; rw [nthA_eta, refF_eq] at h; exact h
        subst hκ
        delta kid
        exact ⟨fm_one hf, by show 1 ≤ 300000; omega⟩
      · subst hκ; delta kid; (have ho := encS_ok (ofL [nthA l i]); generalize encS (ofL [nthA l i]) = xs at ho ⊢; cases xs <;> exact ho)
      · subst hκ; delta kid; (have ho := encS_len2 (s := ofL [nthA l i]) (ofL_len _); generalize encS (ofL [nthA l i]) = xs at ho ⊢; cases xs <;> exact ho.symm)
      · subst hκ; delta kid; exact ⟨by rw [encS_noS, encS_len, encS_len, ofL_len, noS_len]; omega⟩
      · rename_i b6
        have hf : formed (nthA l i) = true := by subst hκ; delta kid at h; rw [nthA_eta, refF_eq] at h; exact h
        refine loopP hP' FTok [e_refF hκ, e_of hκ, e_rlist hκ] mixed [0, 3, 4, 5] (σ := {p : Nat // p ≤ 512}) (fun q => [(6, .c (.v (.int .i64 (κ _ ((q.1 : Nat) : Int)))))]) (fun q => [(200000, .rd Al 6 (κ _ l.length) (κ _ (encL l))), (3, .blk b3 37 (κ _ (encS (overN (madeT (l.take i)) (ofL [nthA l i]) q.1)))), (5, .blk b6 37 (κ _ (encS (ofL [nthA l i]))))]) (fun q => 512 - q.1) ⟨0, Nat.zero_le _⟩ [200000, 3, 5] ?_ (by decide) ?_ hκ ?_
        · cbv
          all_goals (subst hκ; delta kid; repeat' (first | exact rfl | exact trivial | refine And.intro ?_ ?_))
        · cbv
          all_goals (subst hκ; delta kid; repeat' (first | exact rfl | exact trivial | refine And.intro ?_ ?_ | (rw [zero_put (ofL_len _)]; done)))
        rintro ⟨p, hp⟩
        cbv
        refine tst_mk (fun h => ?_) (fun h => ?_) <;> cbv
        · have hm : p < 512 := by subst hκ; delta kid at h; have h2 : (p : Int) < 512 := of_decide_eq_true h; omega
          repeat' (first | refine And.intro ?_ ?_ | (intro _; cbv) | (refine tst_mk (fun h => ?_) (fun h => ?_) <;> cbv) | (refine LookX.nil ?_; cbv) | (refine LookX.auto hκ ?_; cbv) | (refine LookR.mk' (x := .v (.bool (κ _ (nthP (ofL [nthA l i]) p).is))) (by subst hκ; delta kid at *; exact page_is' (ofL_len _) hm) ?_; cbv) | (refine LookN.mk' (x := [.v (.bool (κ _ (nthP (ofL [nthA l i]) p).is)), .v (.int .i64 (κ _ (nthP (ofL [nthA l i]) p).t.p)), .v (.bool (κ _ (nthP (ofL [nthA l i]) p).t.sh)), .v (.int .i64 (κ _ (nthP (ofL [nthA l i]) p).t.b)), .v (.int .i64 (κ _ (nthP (ofL [nthA l i]) p).t.o))]) (by subst hκ; delta kid at *; exact page_take' (ofL_len _) hm) ?_; cbv))
          all_goals (clear hH; subst hκ; delta kid at *; (try dsimp only at *))
          all_goals (try (exact ⟨page_ix hm⟩))
          all_goals (try (exact rfl))
          all_goals (try (exact ⟨over_fit (madeT_len _) hm⟩))
          · refine ⟨⟨⟨p + 1, by omega⟩, [200000, 3, 5], (by show 512 - (p + 1) < 512 - p; omega), by decide, ?_, ?_⟩⟩
            all_goals repeat' (first | exact rfl | exact trivial | refine And.intro ?_ ?_ | exact congrArg (List.map C.den) (over_put (madeT_len _) hm h) | exact congrArg (Value.int .i64) (nat_succ (by omega)))
          · have hv := over_no (s := madeT (l.take i)) h
            refine ⟨⟨⟨p + 1, by omega⟩, [200000, 3, 5], (by show 512 - (p + 1) < 512 - p; omega), by decide, ?_, ?_⟩⟩
            all_goals repeat' (first | exact rfl | exact trivial | refine And.intro ?_ ?_ | exact congrArg (List.map C.den) (congrArg encS hv.symm) | exact congrArg (Value.int .i64) (nat_succ (by omega)))
        · have hm : p = 512 := by subst hκ; delta kid at h; have h2 : ¬ (p : Int) < 512 := of_decide_eq_false h; omega
          subst hm
          all_goals (clear hH; subst hκ; delta kid at *; (try dsimp only at *))
          have hv : overN (madeT (l.take i)) (ofL [nthA l i]) 512 = madeT (l.take (i + 1)) := ((made_next hx).trans (made_yes hf)).symm
          refine ⟨⟨⟨i + 1, by omega⟩, [200000, 3], (by show 40 - (i + 1) < 40 - i; omega), by decide, ?_, ?_⟩⟩
          all_goals repeat' (first | exact rfl | exact trivial | refine And.intro ?_ ?_ | exact congrArg (List.map C.den) (congrArg encS hv) | exact congrArg (Value.int .i64) (nat_succ (by omega)))
      · have hf : formed (nthA l i) = false := by subst hκ; delta kid at h; rw [nthA_eta, refF_eq] at h; exact h
        all_goals (clear hH; subst hκ; delta kid at *; (try dsimp only at *))
        have hv := (made_next hx).trans (made_no hf)
        refine ⟨⟨⟨i + 1, by omega⟩, [200000, 3], (by show 40 - (i + 1) < 40 - i; omega), by decide, ?_, ?_⟩⟩
        all_goals repeat' (first | exact rfl | exact trivial | refine And.intro ?_ ?_ | exact congrArg (List.map C.den) (congrArg encS hv.symm) | exact congrArg (Value.int .i64) (nat_succ (by omega)))
    · have hx4 : i = 40 := by subst hκ; delta kid at h; have h2 : ¬ (i : Int) < 40 := of_decide_eq_false h; omega
      repeat' (first | refine And.intro ?_ ?_ | (intro _; cbv) | (refine tst_mk (fun h => ?_) (fun h => ?_) <;> cbv) | (refine LookX.nil ?_; cbv) | (refine LookX.auto hκ ?_; cbv) | (refine LookN.mk' (x := κ _ (encS (madeT (l.take i)))) (by subst hκ; delta kid at *; exact whole_take (madeT_len _)) ?_; cbv))
      all_goals (try (show Side _; refine ⟨?_⟩; subst hκ; delta kid at *; first | exact rfl | exact trivial | exact ⟨rfl, rfl, .inl rfl⟩ | ((try dsimp only at *); (try simp only [setTo_len, noS_len, List.length_append, List.length_cons, List.length_nil, List.length_map, and_self, true_or, or_true, eq_self, true_and, and_true, Nat.zero_add, Nat.add_zero]); (first | done | omega); done)))
      all_goals (clear hH; subst hκ; delta kid at *; (try dsimp only at *))
      all_goals (try (exact ⟨madeT_len _⟩))
      exact IsX.row_ (by rw [hx4]; rfl) rfl rfl
  · have hx : ¬ i < l.length := by subst hκ; delta kid at h; have h2 : ¬ (i : Int) < (l.length : Int) := of_decide_eq_false h; omega
    repeat' (first | refine And.intro ?_ ?_ | (intro _; cbv) | (refine tst_mk (fun h => ?_) (fun h => ?_) <;> cbv) | (refine LookX.nil ?_; cbv) | (refine LookX.auto hκ ?_; cbv) | (refine LookN.mk' (x := κ _ (encS (madeT (l.take i)))) (by subst hκ; delta kid at *; exact whole_take (madeT_len _)) ?_; cbv))
    all_goals (try (show Side _; refine ⟨?_⟩; subst hκ; delta kid at *; first | exact rfl | exact trivial | exact ⟨rfl, rfl, .inl rfl⟩ | ((try dsimp only at *); (try simp only [setTo_len, noS_len, List.length_append, List.length_cons, List.length_nil, List.length_map, and_self, true_or, or_true, eq_self, true_and, and_true, Nat.zero_add, Nat.add_zero]); (first | done | omega); done)))
    all_goals (clear hH; subst hκ; delta kid at *; (try dsimp only at *))
    all_goals (try (exact ⟨madeT_len _⟩))
    exact IsX.row_ (by rw [List.take_of_length_le (by omega : l.length ≤ i), show madeL l = listS (madeT (l.take 40)) from rfl, List.take_of_length_le (by omega : l.length ≤ 40)]) rfl rfl
def e_made {κ : Kp} (hκ : κ = kid) : ESpec Try.prog := fnES [.listc] b_made F_made hκ fun avs p r hF hp => by
  unfold F_made at hF
  split at hF
  case h_2 => cases hF
  rename_i l xl
  simp only [kid, Option.some.injEq, Prod.mk.injEq] at hF
  obtain ⟨rfl, rfl⟩ := hF
  refine ⟨fun x y h => by simp [SV.den, SV.den0, h], fun vs w hR => ?_⟩
  obtain ⟨il, Al, cl, vs0, rfl, rfl, kl, hl, hR⟩ := hR
  have hR' : vs0 = [] := hR
  subst hR'
  exact k_made l Al cl kl hp w hl
end Go.Proofs.Ytbcicjmepojlnaa.Eng
