/- Texts of this work, laid together: symbolic execution over the model, contracts of the program's functions, what they come to; conditions: as each says. -/
import Derived.Test.YtbcicjmepojlnaaGreatPkGBW
/- Contracts of functions (printed by genx.py of this work): what each hands back; condition: as its 'hside' says. -/
namespace Go.Proofs.YtbcicjmepojlnaaGreat.Eng
open Go Go.RowKit
set_option linter.unusedVariables false
set_option linter.unusedSimpArgs false
theorem b_cdo : Bodied Tryz.prog 6 := bodied Tryz.func6 rfl (by decide)
def F_cdo : FunX2 := fun κ avs => match avs with
  | [.spv l xl lb, .val (.agg [.v (.int .i64 c1), .v (.int .i64 c2), .v (.int .i64 c3), .v (.int .i64 c4), .v (.int .i64 c5), .v (.int .i64 c6), .v (.int .i64 c7), .v (.int .i64 c8), .v (.int .i64 c9)])] => some (κ _ (l.length ≤ 300000), (.row 49 6 ((κ _ ((doL l lb (⟨c1, c2, c3, c4, c5, c6, c7, c8, c9⟩ : Cl)).length))) ((κ _ (encL (doL l lb (⟨c1, c2, c3, c4, c5, c6, c7, c8, c9⟩ : Cl))))) (fun x => .tup [.agg [x, .v (.int .i64 (κ _ (doB l lb (⟨c1, c2, c3, c4, c5, c6, c7, c8, c9⟩ : Cl))))], .agg [.v (.int .i64 (κ _ ((doN l lb (⟨c1, c2, c3, c4, c5, c6, c7, c8, c9⟩ : Cl)).er))), .v (.int .i64 (κ _ ((doN l lb (⟨c1, c2, c3, c4, c5, c6, c7, c8, c9⟩ : Cl)).v))), .v (.int .i64 (κ _ ((doN l lb (⟨c1, c2, c3, c4, c5, c6, c7, c8, c9⟩ : Cl)).t.p))), .v (.bool (κ _ ((doN l lb (⟨c1, c2, c3, c4, c5, c6, c7, c8, c9⟩ : Cl)).t.sh))), .v (.int .i64 (κ _ ((doN l lb (⟨c1, c2, c3, c4, c5, c6, c7, c8, c9⟩ : Cl)).t.b))), .v (.int .i64 (κ _ ((doN l lb (⟨c1, c2, c3, c4, c5, c6, c7, c8, c9⟩ : Cl)).t.o)))]])))
  | _ => none
set_option maxRecDepth 100000 in
set_option maxHeartbeats 4000000 in
theorem k_cdo (l : List Ar) (lb : Int) (c1 : Int) (c2 : Int) (c3 : Int) (c4 : Int) (c5 : Int) (c6 : Int) (c7 : Int) (c8 : Int) (c9 : Int) (Al : Option Addr) (cl : Nat) (hside : l.length ≤ 300000) (w : World) (hl : (Ent.rd Al 6 l.length (encL l)).holds w) :
    Calls Tryz.prog 6 #[(SV.agg [.sl 200000 Al l.length cl, .v (.int .i64 lb)]).den, (SV.agg [.v (.int .i64 c1), .v (.int .i64 c2), .v (.int .i64 c3), .v (.int .i64 c4), .v (.int .i64 c5), .v (.int .i64 c6), .v (.int .i64 c7), .v (.int .i64 c8), .v (.int .i64 c9)]).den] w fun e w' => ∃ v H', e = .returned v.den ∧ IsX (.row 49 6 (((doL l lb (⟨c1, c2, c3, c4, c5, c6, c7, c8, c9⟩ : Cl)).length)) ((encL (doL l lb (⟨c1, c2, c3, c4, c5, c6, c7, c8, c9⟩ : Cl)))) (fun x => .tup [.agg [x, .v (.int .i64 (doB l lb (⟨c1, c2, c3, c4, c5, c6, c7, c8, c9⟩ : Cl)))], .agg [.v (.int .i64 ((doN l lb (⟨c1, c2, c3, c4, c5, c6, c7, c8, c9⟩ : Cl)).er)), .v (.int .i64 ((doN l lb (⟨c1, c2, c3, c4, c5, c6, c7, c8, c9⟩ : Cl)).v)), .v (.int .i64 ((doN l lb (⟨c1, c2, c3, c4, c5, c6, c7, c8, c9⟩ : Cl)).t.p)), .v (.bool ((doN l lb (⟨c1, c2, c3, c4, c5, c6, c7, c8, c9⟩ : Cl)).t.sh)), .v (.int .i64 ((doN l lb (⟨c1, c2, c3, c4, c5, c6, c7, c8, c9⟩ : Cl)).t.b)), .v (.int .i64 ((doN l lb (⟨c1, c2, c3, c4, c5, c6, c7, c8, c9⟩ : Cl)).t.o))]])) v H' ∧ HSat w (fun _ => False) H' w' := by
  obtain ⟨κ, hκ⟩ : ∃ κ : Kp, κ = kid := ⟨_, rfl⟩
  have hH : HSat w (fun _ => False) (heapOf [(nilId, .rd none 1 0 []), (200000, .rd Al 6 (κ _ l.length) (κ _ (encL l)))]) w := by
    subst hκ
    refine HSat.reads fun p hp => ?_
    simp only [List.mem_cons, List.not_mem_nil, or_false] at hp
    rcases hp with rfl | rfl
    · exact ⟨_, _, _, _, rfl, nil_holds w⟩
    · exact ⟨_, _, _, _, rfl, hl⟩
  refine (callsP (n := 86) FTok [e_clone hκ, e_cright hκ, e_map hκ, e_unmap hκ, e_protect hκ, e_remap hκ, e_bmove hκ, e_fault hκ] mixed [(1, [[], [], [], [0, 1, 2], [0, 1, 2], [], [0, 1, 2, 3, 4, 5], []]), (18, [[], [0], [1], []]), (19, [[], [0], [1], []])] Tryz.func6 rfl (by kernel_rfl) #[(SV.agg [.sl 200000 Al l.length cl, .v (.int .i64 lb)]).den, (SV.agg [.v (.int .i64 c1), .v (.int .i64 c2), .v (.int .i64 c3), .v (.int .i64 c4), .v (.int .i64 c5), .v (.int .i64 c6), .v (.int .i64 c7), .v (.int .i64 c8), .v (.int .i64 c9)]).den] [(0, .agg [.sl 200000 Al (κ _ l.length) cl, .v (.int .i64 lb)]), (1, .agg [.v (.int .i64 c1), .v (.int .i64 c2), .v (.int .i64 c3), .v (.int .i64 c4), .v (.int .i64 c5), .v (.int .i64 c6), .v (.int .i64 c7), .v (.int .i64 c8), .v (.int .i64 c9)])] _ w rfl [.cell 4 26, .cell 5 33] rfl (by simp) (by subst hκ; simp [SV.den, C.den, kid]) hH (fun v H' => IsX (.row 49 6 ((κ _ ((doL l lb (⟨c1, c2, c3, c4, c5, c6, c7, c8, c9⟩ : Cl)).length))) ((κ _ (encL (doL l lb (⟨c1, c2, c3, c4, c5, c6, c7, c8, c9⟩ : Cl))))) (fun x => .tup [.agg [x, .v (.int .i64 (κ _ (doB l lb (⟨c1, c2, c3, c4, c5, c6, c7, c8, c9⟩ : Cl))))], .agg [.v (.int .i64 (κ _ ((doN l lb (⟨c1, c2, c3, c4, c5, c6, c7, c8, c9⟩ : Cl)).er))), .v (.int .i64 (κ _ ((doN l lb (⟨c1, c2, c3, c4, c5, c6, c7, c8, c9⟩ : Cl)).v))), .v (.int .i64 (κ _ ((doN l lb (⟨c1, c2, c3, c4, c5, c6, c7, c8, c9⟩ : Cl)).t.p))), .v (.bool (κ _ ((doN l lb (⟨c1, c2, c3, c4, c5, c6, c7, c8, c9⟩ : Cl)).t.sh))), .v (.int .i64 (κ _ ((doN l lb (⟨c1, c2, c3, c4, c5, c6, c7, c8, c9⟩ : Cl)).t.b))), .v (.int .i64 (κ _ ((doN l lb (⟨c1, c2, c3, c4, c5, c6, c7, c8, c9⟩ : Cl)).t.o)))]])) v H') hκ ?_).mono ?_
  rotate_left
  · subst hκ; intro e w' h; exact h
  intro P' hP'
  cbv
  repeat' (first | refine And.intro ?_ ?_ | (intro _; cbv) | (refine tst_mk (fun h => ?_) (fun h => ?_) <;> first | (exfalso; subst hκ; delta kid at h; exact absurd h (by decide)) | (exfalso; subst hκ; delta kid at *; cases (h.symm.trans (by with_reducible assumption : _ = false)); done) | (exfalso; subst hκ; delta kid at *; cases (h.symm.trans (by with_reducible assumption : _ = true)); done) | (exfalso; subst hκ; delta kid at *; exact (beq_no (by with_reducible assumption)) (bne_no h)) | (exfalso; subst hκ; delta kid at *; exact (beq_no h) (beq_yes (by with_reducible assumption))) | (exfalso; subst hκ; delta kid at *; exact (beq_no (by with_reducible assumption)) (beq_yes h)) | cbv) | (refine LookX.nil ?_; cbv) | (refine LookX.auto hκ ?_; cbv))
  all_goals (try (show Side _; refine ⟨?_⟩; subst hκ; delta kid at *; first | exact rfl | exact trivial | exact ⟨rfl, rfl, .inl rfl⟩ | ((try dsimp only at *); (try simp only [setTo_len, noS_len, List.length_append, List.length_cons, List.length_nil, List.length_map, and_self, true_or, or_true, eq_self, true_and, and_true, Nat.zero_add, Nat.add_zero]); (first | done | omega); done)))
  all_goals (clear hH; subst hκ; delta kid at *; (try dsimp only at *))
  all_goals (show IsX _ _ _; refine IsX.rowS rfl rfl (fun x => ?_) ?_ <;> (try simp only [doL, doB, doN, *, errA, noAt, Bool.or_true, Bool.true_or, Bool.or_false, Bool.false_or, Bool.and_true, Bool.true_and, Bool.and_false, Bool.false_and, Bool.not_true, Bool.not_false, if_true, if_false, Bool.false_eq_true]) <;> (try rfl))
def e_cdo {κ : Kp} (hκ : κ = kid) : ESpec Tryz.prog := fn2ES [.sp, .flat] b_cdo F_cdo hκ fun avs p r hF hp => by
  unfold F_cdo at hF
  split at hF
  case h_2 => cases hF
  rename_i l xl lb c1 c2 c3 c4 c5 c6 c7 c8 c9
  simp only [kid, Option.some.injEq, Prod.mk.injEq] at hF
  obtain ⟨rfl, rfl⟩ := hF
  refine ⟨fun x y h => by simp [SV.den, SV.den0, h], fun vs w hR => ?_⟩
  obtain ⟨il, Al, cl, vs0, rfl, rfl, hl, hR⟩ := hR
  obtain ⟨vs1, rfl, hR⟩ := hR
  have hR' : vs1 = [] := hR
  subst hR'
  exact k_cdo l lb c1 c2 c3 c4 c5 c6 c7 c8 c9 Al cl hp w hl
end Go.Proofs.YtbcicjmepojlnaaGreat.Eng
