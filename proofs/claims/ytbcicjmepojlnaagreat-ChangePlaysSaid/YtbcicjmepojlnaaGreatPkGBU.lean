/- Texts of this work, laid together: symbolic execution over the model, contracts of the program's functions, what they come to; conditions: as each says. -/
import Derived.Test.YtbcicjmepojlnaaGreatPkGBS
import Derived.Test.YtbcicjmepojlnaaGreatPkGBT
/- Contracts of functions (printed by genx.py of this work): what each hands back; condition: as its 'hside' says. -/
namespace Go.Proofs.YtbcicjmepojlnaaGreat.Eng
open Go Go.RowKit
set_option linter.unusedVariables false
set_option linter.unusedSimpArgs false
theorem b_remap : Bodied Tryz.prog 16 := bodied Tryz.func16 rfl (by decide)
def F_remap : FunX := fun κ avs => match avs with
  | [.lst l xl, .val (.agg [.v (.int .i64 c1), .v (.int .i64 c2), .v (.int .i64 c3), .v (.int .i64 c4), .v (.int .i64 c5), .v (.int .i64 c6), .v (.int .i64 c7), .v (.int .i64 c8), .v (.int .i64 c9)])] => some (κ _ (l.length ≤ 300000), (.row 49 6 ((κ _ ((remL l (⟨c1, c2, c3, c4, c5, c6, c7, c8, c9⟩ : Cl)).length))) ((κ _ (encL (remL l (⟨c1, c2, c3, c4, c5, c6, c7, c8, c9⟩ : Cl))))) (fun x => .tup [.c x, .agg [.v (.int .i64 (κ _ ((remN l (⟨c1, c2, c3, c4, c5, c6, c7, c8, c9⟩ : Cl)).er))), .v (.int .i64 (κ _ ((remN l (⟨c1, c2, c3, c4, c5, c6, c7, c8, c9⟩ : Cl)).v))), .v (.int .i64 (κ _ ((remN l (⟨c1, c2, c3, c4, c5, c6, c7, c8, c9⟩ : Cl)).t.p))), .v (.bool (κ _ ((remN l (⟨c1, c2, c3, c4, c5, c6, c7, c8, c9⟩ : Cl)).t.sh))), .v (.int .i64 (κ _ ((remN l (⟨c1, c2, c3, c4, c5, c6, c7, c8, c9⟩ : Cl)).t.b))), .v (.int .i64 (κ _ ((remN l (⟨c1, c2, c3, c4, c5, c6, c7, c8, c9⟩ : Cl)).t.o)))]])))
  | _ => none
set_option maxRecDepth 100000 in
set_option maxHeartbeats 4000000 in
theorem k_remap (l : List Ar) (c1 : Int) (c2 : Int) (c3 : Int) (c4 : Int) (c5 : Int) (c6 : Int) (c7 : Int) (c8 : Int) (c9 : Int) (Al : Option Addr) (cl : Nat) (hside : l.length ≤ 300000) (w : World) (hl : (Ent.rd Al 6 l.length (encL l)).holds w) :
    Calls Tryz.prog 16 #[.slice Al l.length cl, (SV.agg [.v (.int .i64 c1), .v (.int .i64 c2), .v (.int .i64 c3), .v (.int .i64 c4), .v (.int .i64 c5), .v (.int .i64 c6), .v (.int .i64 c7), .v (.int .i64 c8), .v (.int .i64 c9)]).den] w fun e w' => ∃ v H', e = .returned v.den ∧ IsX (.row 49 6 (((remL l (⟨c1, c2, c3, c4, c5, c6, c7, c8, c9⟩ : Cl)).length)) ((encL (remL l (⟨c1, c2, c3, c4, c5, c6, c7, c8, c9⟩ : Cl)))) (fun x => .tup [.c x, .agg [.v (.int .i64 ((remN l (⟨c1, c2, c3, c4, c5, c6, c7, c8, c9⟩ : Cl)).er)), .v (.int .i64 ((remN l (⟨c1, c2, c3, c4, c5, c6, c7, c8, c9⟩ : Cl)).v)), .v (.int .i64 ((remN l (⟨c1, c2, c3, c4, c5, c6, c7, c8, c9⟩ : Cl)).t.p)), .v (.bool ((remN l (⟨c1, c2, c3, c4, c5, c6, c7, c8, c9⟩ : Cl)).t.sh)), .v (.int .i64 ((remN l (⟨c1, c2, c3, c4, c5, c6, c7, c8, c9⟩ : Cl)).t.b)), .v (.int .i64 ((remN l (⟨c1, c2, c3, c4, c5, c6, c7, c8, c9⟩ : Cl)).t.o))]])) v H' ∧ HSat w (fun _ => False) H' w' := by
  obtain ⟨κ, hκ⟩ : ∃ κ : Kp, κ = kid := ⟨_, rfl⟩
  have hH : HSat w (fun _ => False) (heapOf [(nilId, .rd none 1 0 []), (200000, .rd Al 6 (κ _ l.length) (κ _ (encL l)))]) w := by
    subst hκ
    refine HSat.reads fun p hp => ?_
    simp only [List.mem_cons, List.not_mem_nil, or_false] at hp
    rcases hp with rfl | rfl
    · exact ⟨_, _, _, _, rfl, nil_holds w⟩
    · exact ⟨_, _, _, _, rfl, hl⟩
  refine (callsP (n := 77) FTok [e_kread hκ, e_kfail hκ, e_khas hκ, e_kfixed hκ, e_kaway hκ, e_kgrow hκ, e_cut hκ, e_kept hκ] mixed [(9, [[], [], [], [], [0, 1, 2, 3], [0, 1, 2, 3], [0, 1, 2, 3], [0, 1, 2, 3], [0, 1, 2, 3, 4, 5, 6, 7], [0, 1, 2, 3, 4, 5, 6, 7], [0, 1, 2, 3, 4, 5, 6, 7], [0, 1, 2, 3, 4, 5, 6, 7], [0, 1, 2, 3], [], []]), (10, [[], [0], [0, 1], [0, 1], [0, 1], [0, 1], [0, 1, 2, 3, 4, 5], [0, 1, 2, 3, 4, 5], [0, 1, 2, 3, 4, 5], [0, 1, 2, 3, 4, 5], [0, 1], [0, 1, 2, 3, 4, 5, 6, 7, 8, 9, 10], [0, 1, 2, 3, 4, 5, 6, 7, 8, 9, 10], [0, 1, 2, 3, 4, 5, 6, 7, 8, 9, 10], [0, 1, 2, 3, 4, 5, 6, 7, 8, 9, 10], [0], [0, 1, 2, 3, 4, 5, 6, 7, 8, 9, 10, 11, 12, 13, 14, 15], [0, 1, 2, 3, 4, 5, 6, 7, 8, 9, 10, 11, 12, 13, 14, 15], [0, 1, 2, 3, 4, 5, 6, 7, 8, 9, 10, 11, 12, 13, 14, 15], [0, 1, 2, 3, 4, 5, 6, 7, 8, 9, 10, 11, 12, 13, 14, 15], [], [], [21], [], []])] Tryz.func16 rfl (by kernel_rfl) #[.slice Al l.length cl, (SV.agg [.v (.int .i64 c1), .v (.int .i64 c2), .v (.int .i64 c3), .v (.int .i64 c4), .v (.int .i64 c5), .v (.int .i64 c6), .v (.int .i64 c7), .v (.int .i64 c8), .v (.int .i64 c9)]).den] [(0, .c (.sl 200000 Al (κ _ l.length) cl)), (1, .agg [.v (.int .i64 c1), .v (.int .i64 c2), .v (.int .i64 c3), .v (.int .i64 c4), .v (.int .i64 c5), .v (.int .i64 c6), .v (.int .i64 c7), .v (.int .i64 c8), .v (.int .i64 c9)])] _ w rfl [.tmp 4, .cell 5 33] rfl (by simp) (by subst hκ; simp [SV.den, C.den, kid]) hH (fun v H' => IsX (.row 49 6 ((κ _ ((remL l (⟨c1, c2, c3, c4, c5, c6, c7, c8, c9⟩ : Cl)).length))) ((κ _ (encL (remL l (⟨c1, c2, c3, c4, c5, c6, c7, c8, c9⟩ : Cl))))) (fun x => .tup [.c x, .agg [.v (.int .i64 (κ _ ((remN l (⟨c1, c2, c3, c4, c5, c6, c7, c8, c9⟩ : Cl)).er))), .v (.int .i64 (κ _ ((remN l (⟨c1, c2, c3, c4, c5, c6, c7, c8, c9⟩ : Cl)).v))), .v (.int .i64 (κ _ ((remN l (⟨c1, c2, c3, c4, c5, c6, c7, c8, c9⟩ : Cl)).t.p))), .v (.bool (κ _ ((remN l (⟨c1, c2, c3, c4, c5, c6, c7, c8, c9⟩ : Cl)).t.sh))), .v (.int .i64 (κ _ ((remN l (⟨c1, c2, c3, c4, c5, c6, c7, c8, c9⟩ : Cl)).t.b))), .v (.int .i64 (κ _ ((remN l (⟨c1, c2, c3, c4, c5, c6, c7, c8, c9⟩ : Cl)).t.o)))]])) v H') hκ ?_).mono ?_
  rotate_left
  · subst hκ; intro e w' h; exact h
  intro P' hP'
  cbv
  repeat' (first | refine And.intro ?_ ?_ | (intro _; cbv) | (refine tst_mk (fun h => ?_) (fun h => ?_) <;> cbv) | (refine LookX.nil ?_; cbv) | (refine LookX.auto hκ ?_; cbv))
  all_goals (try (show Side _; refine ⟨?_⟩; subst hκ; delta kid at *; first | exact rfl | exact trivial | exact ⟨rfl, rfl, .inl rfl⟩ | exact ⟨hside, bd (cut_bd _ _ _) (by omega)⟩ | ((try dsimp only at *); (try simp only [setTo_len, noS_len, List.length_append, List.length_cons, List.length_nil, List.length_map, and_self, true_or, or_true, eq_self, true_and, and_true, Nat.zero_add, Nat.add_zero]); (first | done | omega); done)))
  all_goals (clear hH; subst hκ; delta kid at *; (try dsimp only at *))
  · have e := re_0 (c := (⟨c1, c2, c3, c4, c5, c6, c7, c8, c9⟩ : Cl)) (by with_reducible assumption)
    refine IsX.rowM rfl rfl (fun x => ?_) e.2.symm
    simp only [e.1, errA, noAt]
  · have e := re_1 (c := (⟨c1, c2, c3, c4, c5, c6, c7, c8, c9⟩ : Cl)) (by with_reducible assumption) (by with_reducible assumption)
    refine IsX.rowM rfl rfl (fun x => ?_) e.2.symm
    rw [e.1]
  · have e := re_2 (c := (⟨c1, c2, c3, c4, c5, c6, c7, c8, c9⟩ : Cl)) (by with_reducible assumption) (by with_reducible assumption) (by with_reducible assumption)
    refine IsX.rowM rfl rfl (fun x => ?_) e.2.symm
    rw [e.1]
  · have e := re_3 (c := (⟨c1, c2, c3, c4, c5, c6, c7, c8, c9⟩ : Cl)) (by with_reducible assumption) (by with_reducible assumption) (by with_reducible assumption) (by with_reducible assumption)
    refine IsX.rowM rfl rfl (fun x => ?_) e.2.symm
    rw [e.1]
  · have e := re_4 (c := (⟨c1, c2, c3, c4, c5, c6, c7, c8, c9⟩ : Cl)) (by with_reducible assumption) (by with_reducible assumption) (by with_reducible assumption) (by with_reducible assumption)
    refine IsX.rowM rfl rfl (fun x => ?_) e.2.symm
    rw [e.1]
def e_remap {κ : Kp} (hκ : κ = kid) : ESpec Tryz.prog := fnES [.list, .flat] b_remap F_remap hκ fun avs p r hF hp => by
  unfold F_remap at hF
  split at hF
  case h_2 => cases hF
  rename_i l xl c1 c2 c3 c4 c5 c6 c7 c8 c9
  simp only [kid, Option.some.injEq, Prod.mk.injEq] at hF
  obtain ⟨rfl, rfl⟩ := hF
  refine ⟨fun x y h => by simp [SV.den, SV.den0, h], fun vs w hR => ?_⟩
  obtain ⟨il, Al, cl, vs0, rfl, rfl, hl, hR⟩ := hR
  obtain ⟨vs1, rfl, hR⟩ := hR
  have hR' : vs1 = [] := hR
  subst hR'
  exact k_remap l c1 c2 c3 c4 c5 c6 c7 c8 c9 Al cl hp w hl
end Go.Proofs.YtbcicjmepojlnaaGreat.Eng
