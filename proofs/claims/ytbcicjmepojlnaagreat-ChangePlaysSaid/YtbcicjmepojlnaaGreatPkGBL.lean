/- Texts of this work, laid together: symbolic execution over the model, contracts of the program's functions, what they come to; conditions: as each says. -/
import Derived.Test.YtbcicjmepojlnaaGreatPkGBK
/- Contracts of functions (printed by genx.py of this work): what each hands back; condition: as its 'hside' says. -/
namespace Go.Proofs.YtbcicjmepojlnaaGreat.Eng
open Go Go.RowKit
set_option linter.unusedVariables false
set_option linter.unusedSimpArgs false
theorem b_rmap : Bodied Tryz.prog 19 := bodied Tryz.func19 rfl (by decide)
def F_rmap : FunX := fun κ avs => match avs with
  | [.lst l xl, .val (.agg [.v (.int .i64 c1), .v (.int .i64 c2), .v (.int .i64 c3), .v (.int .i64 c4), .v (.int .i64 c5), .v (.int .i64 c6), .v (.int .i64 c7), .v (.int .i64 c8), .v (.int .i64 c9)])] => some (κ _ (mayS l = true ∧ In64 (⟨c1, c2, c3, c4, c5, c6, c7, c8, c9⟩ : Cl).a ∧ In64 (⟨c1, c2, c3, c4, c5, c6, c7, c8, c9⟩ : Cl).o ∧ In64 (⟨c1, c2, c3, c4, c5, c6, c7, c8, c9⟩ : Cl).f), (.alt ((κ _ ((mapN l (⟨c1, c2, c3, c4, c5, c6, c7, c8, c9⟩ : Cl)).er != 0))) (xl) (fun x => .tup [.c x, .agg [.v (.int .i64 (κ _ ((mapN l (⟨c1, c2, c3, c4, c5, c6, c7, c8, c9⟩ : Cl)).er))), .v (.int .i64 (κ _ ((mapN l (⟨c1, c2, c3, c4, c5, c6, c7, c8, c9⟩ : Cl)).v))), .v (.int .i64 (κ _ ((mapN l (⟨c1, c2, c3, c4, c5, c6, c7, c8, c9⟩ : Cl)).t.p))), .v (.bool (κ _ ((mapN l (⟨c1, c2, c3, c4, c5, c6, c7, c8, c9⟩ : Cl)).t.sh))), .v (.int .i64 (κ _ ((mapN l (⟨c1, c2, c3, c4, c5, c6, c7, c8, c9⟩ : Cl)).t.b))), .v (.int .i64 (κ _ ((mapN l (⟨c1, c2, c3, c4, c5, c6, c7, c8, c9⟩ : Cl)).t.o)))]]) ((κ _ (mapL l (⟨c1, c2, c3, c4, c5, c6, c7, c8, c9⟩ : Cl)))) (fun x => .tup [.c x, .agg [.v (.int .i64 (κ _ ((mapN l (⟨c1, c2, c3, c4, c5, c6, c7, c8, c9⟩ : Cl)).er))), .v (.int .i64 (κ _ ((mapN l (⟨c1, c2, c3, c4, c5, c6, c7, c8, c9⟩ : Cl)).v))), .v (.int .i64 (κ _ ((mapN l (⟨c1, c2, c3, c4, c5, c6, c7, c8, c9⟩ : Cl)).t.p))), .v (.bool (κ _ ((mapN l (⟨c1, c2, c3, c4, c5, c6, c7, c8, c9⟩ : Cl)).t.sh))), .v (.int .i64 (κ _ ((mapN l (⟨c1, c2, c3, c4, c5, c6, c7, c8, c9⟩ : Cl)).t.b))), .v (.int .i64 (κ _ ((mapN l (⟨c1, c2, c3, c4, c5, c6, c7, c8, c9⟩ : Cl)).t.o)))]])))
  | _ => none
set_option maxRecDepth 100000 in
set_option maxHeartbeats 4000000 in
theorem k_rmap (l : List Ar) (c1 : Int) (c2 : Int) (c3 : Int) (c4 : Int) (c5 : Int) (c6 : Int) (c7 : Int) (c8 : Int) (c9 : Int) (Al : Option Addr) (cl : Nat) (hside : mayS l = true ∧ In64 (⟨c1, c2, c3, c4, c5, c6, c7, c8, c9⟩ : Cl).a ∧ In64 (⟨c1, c2, c3, c4, c5, c6, c7, c8, c9⟩ : Cl).o ∧ In64 (⟨c1, c2, c3, c4, c5, c6, c7, c8, c9⟩ : Cl).f) (w : World) (hl : (Ent.rd Al 6 l.length (encL l)).holds w) :
    Calls Tryz.prog 19 #[.slice Al l.length cl, (SV.agg [.v (.int .i64 c1), .v (.int .i64 c2), .v (.int .i64 c3), .v (.int .i64 c4), .v (.int .i64 c5), .v (.int .i64 c6), .v (.int .i64 c7), .v (.int .i64 c8), .v (.int .i64 c9)]).den] w fun e w' => ∃ v H', e = .returned v.den ∧ IsX (.alt (((mapN l (⟨c1, c2, c3, c4, c5, c6, c7, c8, c9⟩ : Cl)).er != 0)) (.sl 200000 Al l.length cl) (fun x => .tup [.c x, .agg [.v (.int .i64 ((mapN l (⟨c1, c2, c3, c4, c5, c6, c7, c8, c9⟩ : Cl)).er)), .v (.int .i64 ((mapN l (⟨c1, c2, c3, c4, c5, c6, c7, c8, c9⟩ : Cl)).v)), .v (.int .i64 ((mapN l (⟨c1, c2, c3, c4, c5, c6, c7, c8, c9⟩ : Cl)).t.p)), .v (.bool ((mapN l (⟨c1, c2, c3, c4, c5, c6, c7, c8, c9⟩ : Cl)).t.sh)), .v (.int .i64 ((mapN l (⟨c1, c2, c3, c4, c5, c6, c7, c8, c9⟩ : Cl)).t.b)), .v (.int .i64 ((mapN l (⟨c1, c2, c3, c4, c5, c6, c7, c8, c9⟩ : Cl)).t.o))]]) ((mapL l (⟨c1, c2, c3, c4, c5, c6, c7, c8, c9⟩ : Cl))) (fun x => .tup [.c x, .agg [.v (.int .i64 ((mapN l (⟨c1, c2, c3, c4, c5, c6, c7, c8, c9⟩ : Cl)).er)), .v (.int .i64 ((mapN l (⟨c1, c2, c3, c4, c5, c6, c7, c8, c9⟩ : Cl)).v)), .v (.int .i64 ((mapN l (⟨c1, c2, c3, c4, c5, c6, c7, c8, c9⟩ : Cl)).t.p)), .v (.bool ((mapN l (⟨c1, c2, c3, c4, c5, c6, c7, c8, c9⟩ : Cl)).t.sh)), .v (.int .i64 ((mapN l (⟨c1, c2, c3, c4, c5, c6, c7, c8, c9⟩ : Cl)).t.b)), .v (.int .i64 ((mapN l (⟨c1, c2, c3, c4, c5, c6, c7, c8, c9⟩ : Cl)).t.o))]])) v H' ∧ HSat w (fun _ => False) H' w' := by
  obtain ⟨κ, hκ⟩ : ∃ κ : Kp, κ = kid := ⟨_, rfl⟩
  have hH : HSat w (fun _ => False) (heapOf [(nilId, .rd none 1 0 []), (200000, .rd Al 6 (κ _ l.length) (κ _ (encL l)))]) w := by
    subst hκ
    refine HSat.reads fun p hp => ?_
    simp only [List.mem_cons, List.not_mem_nil, or_false] at hp
    rcases hp with rfl | rfl
    · exact ⟨_, _, _, _, rfl, nil_holds w⟩
    · exact ⟨_, _, _, _, rfl, hl⟩
  refine (callsP (n := 94) FTok [e_rsize hκ, e_rback hκ, e_rplace hκ, e_of hκ, e_rwith hκ, e_rkept hκ] mixed [(12, [[], [0], [0], [0, 1, 2], [0, 1, 2, 3], [0, 1, 2, 3, 4], [0, 1, 2, 3], [0, 1, 2, 3, 4, 5, 6], [0], [0, 1, 2, 3, 4, 5, 6, 7, 8], [], [], [11], [], []])] Tryz.func19 rfl (by kernel_rfl) #[.slice Al l.length cl, (SV.agg [.v (.int .i64 c1), .v (.int .i64 c2), .v (.int .i64 c3), .v (.int .i64 c4), .v (.int .i64 c5), .v (.int .i64 c6), .v (.int .i64 c7), .v (.int .i64 c8), .v (.int .i64 c9)]).den] [(0, .c (.sl 200000 Al (κ _ l.length) cl)), (1, .agg [.v (.int .i64 c1), .v (.int .i64 c2), .v (.int .i64 c3), .v (.int .i64 c4), .v (.int .i64 c5), .v (.int .i64 c6), .v (.int .i64 c7), .v (.int .i64 c8), .v (.int .i64 c9)])] _ w rfl [.tmp 4, .cell 5 33] rfl (by simp) (by subst hκ; simp [SV.den, C.den, kid]) hH (fun v H' => IsX (.alt ((κ _ ((mapN l (⟨c1, c2, c3, c4, c5, c6, c7, c8, c9⟩ : Cl)).er != 0))) (.sl 200000 Al (κ _ l.length) cl) (fun x => .tup [.c x, .agg [.v (.int .i64 (κ _ ((mapN l (⟨c1, c2, c3, c4, c5, c6, c7, c8, c9⟩ : Cl)).er))), .v (.int .i64 (κ _ ((mapN l (⟨c1, c2, c3, c4, c5, c6, c7, c8, c9⟩ : Cl)).v))), .v (.int .i64 (κ _ ((mapN l (⟨c1, c2, c3, c4, c5, c6, c7, c8, c9⟩ : Cl)).t.p))), .v (.bool (κ _ ((mapN l (⟨c1, c2, c3, c4, c5, c6, c7, c8, c9⟩ : Cl)).t.sh))), .v (.int .i64 (κ _ ((mapN l (⟨c1, c2, c3, c4, c5, c6, c7, c8, c9⟩ : Cl)).t.b))), .v (.int .i64 (κ _ ((mapN l (⟨c1, c2, c3, c4, c5, c6, c7, c8, c9⟩ : Cl)).t.o)))]]) ((κ _ (mapL l (⟨c1, c2, c3, c4, c5, c6, c7, c8, c9⟩ : Cl)))) (fun x => .tup [.c x, .agg [.v (.int .i64 (κ _ ((mapN l (⟨c1, c2, c3, c4, c5, c6, c7, c8, c9⟩ : Cl)).er))), .v (.int .i64 (κ _ ((mapN l (⟨c1, c2, c3, c4, c5, c6, c7, c8, c9⟩ : Cl)).v))), .v (.int .i64 (κ _ ((mapN l (⟨c1, c2, c3, c4, c5, c6, c7, c8, c9⟩ : Cl)).t.p))), .v (.bool (κ _ ((mapN l (⟨c1, c2, c3, c4, c5, c6, c7, c8, c9⟩ : Cl)).t.sh))), .v (.int .i64 (κ _ ((mapN l (⟨c1, c2, c3, c4, c5, c6, c7, c8, c9⟩ : Cl)).t.b))), .v (.int .i64 (κ _ ((mapN l (⟨c1, c2, c3, c4, c5, c6, c7, c8, c9⟩ : Cl)).t.o)))]])) v H') hκ ?_).mono ?_
  rotate_left
  · subst hκ; intro e w' h; exact h
  intro P' hP'
  cbv
  have hrt := mayS_rt hside.1
  repeat' (first | refine And.intro ?_ ?_ | (intro _; cbv) | (refine tst_mk (fun h => ?_) (fun h => ?_) <;> first | (exfalso; subst hκ; delta kid at h; exact absurd h (by decide)) | (exfalso; subst hκ; delta kid at *; exact (beq_no (by with_reducible assumption)) (bne_no h)) | (exfalso; subst hκ; delta kid at *; exact (beq_no h) (beq_yes (by with_reducible assumption))) | (exfalso; subst hκ; delta kid at *; exact (beq_no (by with_reducible assumption)) (beq_yes h)) | cbv) | (refine LookX.nil ?_; cbv) | (refine LookX.auto hκ ?_; cbv))
  all_goals (try (show Side _; refine ⟨?_⟩; subst hκ; delta kid at *; first | exact rfl | exact trivial | exact ⟨rfl, rfl, .inl rfl⟩ | exact ⟨hrt.1.1, by omega⟩ | exact ofL_len l | exact (withP_len _ _ _ _).trans (ofL_len l) | ((try dsimp only at *); (try simp only [setTo_len, noS_len, List.length_append, List.length_cons, List.length_nil, List.length_map, and_self, true_or, or_true, eq_self, true_and, and_true, Nat.zero_add, Nat.add_zero]); (first | done | omega); done)))
  all_goals (clear hH; subst hκ; delta kid at *; (try dsimp only at *))
  all_goals (try (show Side _; refine ⟨?_⟩; first | exact ⟨hside.2.2.1, (size_ok (beq_yes (by with_reducible assumption))).1⟩ | exact ⟨hside.1, hside.2.1, mp_sz (by with_reducible assumption), fl_rng (by with_reducible assumption) (by with_reducible assumption)⟩ | exact mp_side hside.1 (by with_reducible assumption) hside.2.1 (by with_reducible assumption)))
  all_goals (try (have ha : askE (⟨c1, c2, c3, c4, c5, c6, c7, c8, c9⟩ : Cl) = 1 := (by first | exact ask_a (c := (⟨c1, c2, c3, c4, c5, c6, c7, c8, c9⟩ : Cl)) (by with_reducible assumption) (.inl (by with_reducible assumption)) | exact ask_a (c := (⟨c1, c2, c3, c4, c5, c6, c7, c8, c9⟩ : Cl)) (by with_reducible assumption) (.inr (by with_reducible assumption)) | exact ask_b (c := (⟨c1, c2, c3, c4, c5, c6, c7, c8, c9⟩ : Cl)) (by with_reducible assumption) (by with_reducible assumption) (by with_reducible assumption) hside.2.2.2 (.inl (by with_reducible assumption)) | exact ask_b (c := (⟨c1, c2, c3, c4, c5, c6, c7, c8, c9⟩ : Cl)) (by with_reducible assumption) (by with_reducible assumption) (by with_reducible assumption) hside.2.2.2 (.inr (by with_reducible assumption)) | exact ask_c (c := (⟨c1, c2, c3, c4, c5, c6, c7, c8, c9⟩ : Cl)) (by with_reducible assumption) (by with_reducible assumption) (by with_reducible assumption) (by with_reducible assumption) (by with_reducible assumption) (by with_reducible assumption)); have hb := mp_ask (c := (⟨c1, c2, c3, c4, c5, c6, c7, c8, c9⟩ : Cl)) hside.1 (by rw [ha]; rfl); refine IsX.sameM rfl (fun x => ?_) hb.2.2; simp only [hb.1, ha, errA, noAt]; done))
  · have ha := (ask_d (c := (⟨c1, c2, c3, c4, c5, c6, c7, c8, c9⟩ : Cl)) (by with_reducible assumption) (by with_reducible assumption) (by with_reducible assumption) (by with_reducible assumption) (by with_reducible assumption) (by with_reducible assumption)).trans (beq_yes (by with_reducible assumption))
    have hb := mp_place (c := (⟨c1, c2, c3, c4, c5, c6, c7, c8, c9⟩ : Cl)) hside.1 ha (by with_reducible assumption)
    refine IsX.sameM rfl (fun x => ?_) hb.2.2
    simp only [hb.1, errA, noAt]
  · have hbk : backE c8 c9 (sizeV c3) = 0 := beq_yes (by with_reducible assumption)
    have ha : askE (⟨c1, c2, c3, c4, c5, c6, c7, c8, c9⟩ : Cl) = 0 := (ask_d (c := (⟨c1, c2, c3, c4, c5, c6, c7, c8, c9⟩ : Cl)) (by with_reducible assumption) (by with_reducible assumption) (by with_reducible assumption) (by with_reducible assumption) (by with_reducible assumption) (by with_reducible assumption)).trans hbk
    have hx := mp_x (c := (⟨c1, c2, c3, c4, c5, c6, c7, c8, c9⟩ : Cl)) hside.1 (by with_reducible assumption) hside.2.1 (by with_reducible assumption) (by with_reducible assumption) (by with_reducible assumption) (by with_reducible assumption) hbk (by with_reducible assumption)
    have hb := mp_same (c := (⟨c1, c2, c3, c4, c5, c6, c7, c8, c9⟩ : Cl)) hside.1 ha (by with_reducible assumption) hx h
    refine IsX.sameM rfl (fun x => ?_) hb.2
    simp only [hb.1, errA, noAt]
  · have hbk : backE c8 c9 (sizeV c3) = 0 := beq_yes (by with_reducible assumption)
    have ha : askE (⟨c1, c2, c3, c4, c5, c6, c7, c8, c9⟩ : Cl) = 0 := (ask_d (c := (⟨c1, c2, c3, c4, c5, c6, c7, c8, c9⟩ : Cl)) (by with_reducible assumption) (by with_reducible assumption) (by with_reducible assumption) (by with_reducible assumption) (by with_reducible assumption) (by with_reducible assumption)).trans hbk
    have hx := mp_x (c := (⟨c1, c2, c3, c4, c5, c6, c7, c8, c9⟩ : Cl)) hside.1 (by with_reducible assumption) hside.2.1 (by with_reducible assumption) (by with_reducible assumption) (by with_reducible assumption) (by with_reducible assumption) hbk (by with_reducible assumption)
    have hb := mp_new (c := (⟨c1, c2, c3, c4, c5, c6, c7, c8, c9⟩ : Cl)) hside.1 ha (by with_reducible assumption) hx h
    refine IsX.newM rfl rfl (fun x => ?_) hb.2.1 hb.2.2
    simp only [hb.1, okA, noAt, mapV]
  · have ha := ask_d (c := (⟨c1, c2, c3, c4, c5, c6, c7, c8, c9⟩ : Cl)) (by with_reducible assumption) (by with_reducible assumption) (by with_reducible assumption) (by with_reducible assumption) (by with_reducible assumption) (by with_reducible assumption)
    have hb := mp_ask (c := (⟨c1, c2, c3, c4, c5, c6, c7, c8, c9⟩ : Cl)) hside.1 (by rw [ha]; exact h)
    refine IsX.sameM rfl (fun x => ?_) hb.2.2
    simp only [hb.1, ha, errA, noAt]
  · have ha := ask_s (c := (⟨c1, c2, c3, c4, c5, c6, c7, c8, c9⟩ : Cl)) (by with_reducible assumption)
    have hb := mp_ask (c := (⟨c1, c2, c3, c4, c5, c6, c7, c8, c9⟩ : Cl)) hside.1 (by rw [ha.1]; exact ha.2)
    refine IsX.sameM rfl (fun x => ?_) hb.2.2
    simp only [hb.1, ha.1, errA, noAt]
def e_rmap {κ : Kp} (hκ : κ = kid) : ESpec Tryz.prog := fnES [.list, .flat] b_rmap F_rmap hκ fun avs p r hF hp => by
  unfold F_rmap at hF
  split at hF
  case h_2 => cases hF
  rename_i l xl c1 c2 c3 c4 c5 c6 c7 c8 c9
  simp only [kid, Option.some.injEq, Prod.mk.injEq] at hF
  obtain ⟨rfl, rfl⟩ := hF
  refine ⟨fun x y h => by simp [SV.den, SV.den0, h], fun vs w hR => ?_⟩
  obtain ⟨il, Al, cl, vs0, rfl, rfl, hl, hR⟩ := hR
  obtain ⟨vs1, rfl, hR⟩ := hR
  have hR' : vs1 = [] := hR
  subst hR'
  exact (k_rmap l c1 c2 c3 c4 c5 c6 c7 c8 c9 Al cl hp w hl).mono fun e w' ⟨v, H', h1, h2, h3⟩ => ⟨v, H', h1, h2.swap rfl, h3⟩
end Go.Proofs.YtbcicjmepojlnaaGreat.Eng
