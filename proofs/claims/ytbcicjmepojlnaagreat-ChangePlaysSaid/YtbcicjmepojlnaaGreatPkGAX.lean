/- Texts of this work, laid together: symbolic execution over the model, contracts of the program's functions, what they come to; conditions: as each says. -/
import Derived.Test.YtbcicjmepojlnaaGreatPkGAS
import Derived.Test.YtbcicjmepojlnaaGreatPkGAW
/- Contracts of functions (printed by genx.py of this work): what each hands back; condition: as its 'hside' says. -/
namespace Go.Proofs.YtbcicjmepojlnaaGreat.Eng
open Go Go.RowKit
set_option linter.unusedVariables false
set_option linter.unusedSimpArgs false
theorem b_rfault : Bodied Tryz.prog 24 := bodied Tryz.func24 rfl (by decide)
def F_rfault : FunX := fun κ avs => match avs with
  | [.lst l xl, .val (.agg [.v (.int .i64 c1), .v (.int .i64 c2), .v (.int .i64 c3), .v (.int .i64 c4), .v (.int .i64 c5), .v (.int .i64 c6), .v (.int .i64 c7), .v (.int .i64 c8), .v (.int .i64 c9)])] => some (κ _ (mayS l = true), (.val (.agg [.v (.int .i64 (κ _ ((faultN l (⟨c1, c2, c3, c4, c5, c6, c7, c8, c9⟩ : Cl)).er))), .v (.int .i64 (κ _ ((faultN l (⟨c1, c2, c3, c4, c5, c6, c7, c8, c9⟩ : Cl)).v))), .v (.int .i64 (κ _ ((faultN l (⟨c1, c2, c3, c4, c5, c6, c7, c8, c9⟩ : Cl)).t.p))), .v (.bool (κ _ ((faultN l (⟨c1, c2, c3, c4, c5, c6, c7, c8, c9⟩ : Cl)).t.sh))), .v (.int .i64 (κ _ ((faultN l (⟨c1, c2, c3, c4, c5, c6, c7, c8, c9⟩ : Cl)).t.b))), .v (.int .i64 (κ _ ((faultN l (⟨c1, c2, c3, c4, c5, c6, c7, c8, c9⟩ : Cl)).t.o)))])))
  | _ => none
set_option maxRecDepth 100000 in
set_option maxHeartbeats 4000000 in
theorem k_rfault (l : List Ar) (c1 : Int) (c2 : Int) (c3 : Int) (c4 : Int) (c5 : Int) (c6 : Int) (c7 : Int) (c8 : Int) (c9 : Int) (Al : Option Addr) (cl : Nat) (hside : mayS l = true) (w : World) (hl : (Ent.rd Al 6 l.length (encL l)).holds w) :
    Calls Tryz.prog 24 #[.slice Al l.length cl, (SV.agg [.v (.int .i64 c1), .v (.int .i64 c2), .v (.int .i64 c3), .v (.int .i64 c4), .v (.int .i64 c5), .v (.int .i64 c6), .v (.int .i64 c7), .v (.int .i64 c8), .v (.int .i64 c9)]).den] w fun e w' => ∃ v H', e = .returned v.den ∧ IsX (.val (.agg [.v (.int .i64 ((faultN l (⟨c1, c2, c3, c4, c5, c6, c7, c8, c9⟩ : Cl)).er)), .v (.int .i64 ((faultN l (⟨c1, c2, c3, c4, c5, c6, c7, c8, c9⟩ : Cl)).v)), .v (.int .i64 ((faultN l (⟨c1, c2, c3, c4, c5, c6, c7, c8, c9⟩ : Cl)).t.p)), .v (.bool ((faultN l (⟨c1, c2, c3, c4, c5, c6, c7, c8, c9⟩ : Cl)).t.sh)), .v (.int .i64 ((faultN l (⟨c1, c2, c3, c4, c5, c6, c7, c8, c9⟩ : Cl)).t.b)), .v (.int .i64 ((faultN l (⟨c1, c2, c3, c4, c5, c6, c7, c8, c9⟩ : Cl)).t.o))])) v H' ∧ HSat w (fun _ => False) H' w' := by
  obtain ⟨κ, hκ⟩ : ∃ κ : Kp, κ = kid := ⟨_, rfl⟩
  have hH : HSat w (fun _ => False) (heapOf [(nilId, .rd none 1 0 []), (200000, .rd Al 6 (κ _ l.length) (κ _ (encL l)))]) w := by
    subst hκ
    refine HSat.reads fun p hp => ?_
    simp only [List.mem_cons, List.not_mem_nil, or_false] at hp
    rcases hp with rfl | rfl
    · exact ⟨_, _, _, _, rfl, nil_holds w⟩
    · exact ⟨_, _, _, _, rfl, hl⟩
  refine (callsP (n := 64) FTok [e_of hκ] mixed [] Tryz.func24 rfl (by kernel_rfl) #[.slice Al l.length cl, (SV.agg [.v (.int .i64 c1), .v (.int .i64 c2), .v (.int .i64 c3), .v (.int .i64 c4), .v (.int .i64 c5), .v (.int .i64 c6), .v (.int .i64 c7), .v (.int .i64 c8), .v (.int .i64 c9)]).den] [(0, .c (.sl 200000 Al (κ _ l.length) cl)), (1, .agg [.v (.int .i64 c1), .v (.int .i64 c2), .v (.int .i64 c3), .v (.int .i64 c4), .v (.int .i64 c5), .v (.int .i64 c6), .v (.int .i64 c7), .v (.int .i64 c8), .v (.int .i64 c9)])] _ w rfl [.cell 4 33] rfl (by simp) (by subst hκ; simp [SV.den, C.den, kid]) hH (fun v H' => IsX (.val (.agg [.v (.int .i64 (κ _ ((faultN l (⟨c1, c2, c3, c4, c5, c6, c7, c8, c9⟩ : Cl)).er))), .v (.int .i64 (κ _ ((faultN l (⟨c1, c2, c3, c4, c5, c6, c7, c8, c9⟩ : Cl)).v))), .v (.int .i64 (κ _ ((faultN l (⟨c1, c2, c3, c4, c5, c6, c7, c8, c9⟩ : Cl)).t.p))), .v (.bool (κ _ ((faultN l (⟨c1, c2, c3, c4, c5, c6, c7, c8, c9⟩ : Cl)).t.sh))), .v (.int .i64 (κ _ ((faultN l (⟨c1, c2, c3, c4, c5, c6, c7, c8, c9⟩ : Cl)).t.b))), .v (.int .i64 (κ _ ((faultN l (⟨c1, c2, c3, c4, c5, c6, c7, c8, c9⟩ : Cl)).t.o)))])) v H') hκ ?_).mono ?_
  rotate_left
  · subst hκ; intro e w' h; exact h
  intro P' hP'
  cbv
  have hrt := mayS_rt hside
  repeat' (first | refine And.intro ?_ ?_ | (intro _; cbv) | (refine tst_mk (fun h => ?_) (fun h => ?_) <;> cbv) | (refine LookX.nil ?_; cbv) | (refine LookX.auto hκ ?_; cbv) | (refine LookR.mk' (x := .v (.bool (κ _ (nthP (ofL l) (c2 / 4096).toNat).is))) (by subst hκ; delta kid at *; exact adr_isZ (ofL_len l) (by with_reducible assumption) (by with_reducible assumption)) ?_; cbv) | (refine LookN.mk' (x := [.v (.int .i64 (κ _ (nthP (ofL l) (c2 / 4096).toNat).t.p)), .v (.bool (κ _ (nthP (ofL l) (c2 / 4096).toNat).t.sh)), .v (.int .i64 (κ _ (nthP (ofL l) (c2 / 4096).toNat).t.b)), .v (.int .i64 (κ _ (nthP (ofL l) (c2 / 4096).toNat).t.o))]) (by subst hκ; delta kid at *; exact adr_attrZ (ofL_len l) (by with_reducible assumption) (by with_reducible assumption)) ?_; cbv))
  all_goals (try (show Side _; refine ⟨?_⟩; subst hκ; delta kid at *; first | exact rfl | exact trivial | exact ⟨rfl, rfl, .inl rfl⟩ | exact ⟨hrt.1.1, by omega⟩ | exact adr_in (by with_reducible assumption) (by with_reducible assumption) | ((try dsimp only at *); (try simp only [setTo_len, noS_len, List.length_append, List.length_cons, List.length_nil, List.length_map, and_self, true_or, or_true, eq_self, true_and, and_true, Nat.zero_add, Nat.add_zero]); (first | done | omega); done)))
  all_goals (try (show _ = true; subst hκ; delta kid; (have ho := encS_ok (ofL l); generalize encS (ofL l) = xs at ho ⊢; cases xs <;> exact ho)))
  all_goals (try (show 2560 = _; subst hκ; delta kid; (have ho := encS_len2 (s := ofL l) (ofL_len l); generalize encS (ofL l) = xs at ho ⊢; cases xs <;> exact ho.symm)))
  all_goals (try (show Side _; subst hκ; delta kid; refine ⟨?_⟩; rw [encS_noS, encS_len, encS_len, ofL_len l, noS_len]; omega))
  all_goals (try (show IsX _ _ _; (clear hH; subst hκ; delta kid at *; (try dsimp only at *)); first | exact IsX.ans_ (fault_a (c := (⟨c1, c2, c3, c4, c5, c6, c7, c8, c9⟩ : Cl)) hside (.inl (by with_reducible assumption))) rfl | exact IsX.ans_ (fault_a (c := (⟨c1, c2, c3, c4, c5, c6, c7, c8, c9⟩ : Cl)) hside (.inr (by with_reducible assumption))) rfl | exact IsX.ans_ (fault_b (c := (⟨c1, c2, c3, c4, c5, c6, c7, c8, c9⟩ : Cl)) hside (by with_reducible assumption) (by with_reducible assumption) (.inl (by with_reducible assumption))) rfl | exact IsX.ans_ (fault_b (c := (⟨c1, c2, c3, c4, c5, c6, c7, c8, c9⟩ : Cl)) hside (by with_reducible assumption) (by with_reducible assumption) (.inr (.inl (by with_reducible assumption)))) rfl | exact IsX.ans_ (fault_b (c := (⟨c1, c2, c3, c4, c5, c6, c7, c8, c9⟩ : Cl)) hside (by with_reducible assumption) (by with_reducible assumption) (.inr (.inr ⟨(by with_reducible assumption), (by with_reducible assumption), (by with_reducible assumption)⟩))) rfl))
  rename_i b3 b4 h1 h2 b5 h3 h4 b6
  refine loopP hP' FTok [e_of hκ] mixed [3, 4, 6] (σ := {i : Nat // i ≤ 3 ∧ bitsOk c6 (nthP (ofL l) (c2 / 4096).toNat).t.p i}) (fun q => [(7, .c (.v (.int .i64 (bitN q.1))))]) (fun q => [(3, .blk b3 37 [.v (.int .i64 c1), .v (.int .i64 c2), .v (.int .i64 c3), .v (.int .i64 c4), .v (.int .i64 c5), .v (.int .i64 c6), .v (.int .i64 c7), .v (.int .i64 c8), .v (.int .i64 c9)]), (4, .blk b4 33 [.v (.int .i64 0), .v (.int .i64 0), .v (.int .i64 0), .v (.bool false), .v (.int .i64 0), .v (.int .i64 0)]), (6, .blk b6 31 [.v (.int .i64 (κ _ (nthP (ofL l) (c2 / 4096).toNat).t.p)), .v (.bool (κ _ (nthP (ofL l) (c2 / 4096).toNat).t.sh)), .v (.int .i64 (κ _ (nthP (ofL l) (c2 / 4096).toNat).t.b)), .v (.int .i64 (κ _ (nthP (ofL l) (c2 / 4096).toNat).t.o))])]) (fun q => 3 - q.1) ⟨0, Nat.zero_le _, fun j hj => absurd hj (Nat.not_lt_zero j)⟩ [3, 4, 6] ?_ (by decide) ?_ hκ ?_
  · cbv
    all_goals (subst hκ; delta kid; repeat' (first | exact rfl | exact trivial | refine And.intro ?_ ?_))
  · cbv
    all_goals (subst hκ; delta kid; repeat' (first | exact rfl | exact trivial | refine And.intro ?_ ?_))
  rintro ⟨i, hi, hok⟩
  obtain rfl | rfl | rfl | rfl : i = 0 ∨ i = 1 ∨ i = 2 ∨ i = 3 := by omega
  · cbv
    refine tst_mk (fun h => ?_) (fun h => ?_)
    rotate_left
    · subst hκ; delta kid at h; exact absurd h (by decide)
    cbv
    repeat' (first | refine And.intro ?_ ?_ | (intro _; cbv) | (refine tst_mk (fun h => ?_) (fun h => ?_) <;> cbv) | (refine LookX.nil ?_; cbv) | (refine LookX.auto hκ ?_; cbv) | (refine LookR.mk' (x := .v (.bool (κ _ (nthP (ofL l) (c2 / 4096).toNat).is))) (by subst hκ; delta kid at *; exact adr_isZ (ofL_len l) (by with_reducible assumption) (by with_reducible assumption)) ?_; cbv) | (refine LookN.mk' (x := [.v (.int .i64 (κ _ (nthP (ofL l) (c2 / 4096).toNat).t.p)), .v (.bool (κ _ (nthP (ofL l) (c2 / 4096).toNat).t.sh)), .v (.int .i64 (κ _ (nthP (ofL l) (c2 / 4096).toNat).t.b)), .v (.int .i64 (κ _ (nthP (ofL l) (c2 / 4096).toNat).t.o))]) (by subst hκ; delta kid at *; exact adr_attrZ (ofL_len l) (by with_reducible assumption) (by with_reducible assumption)) ?_; cbv))
    all_goals (clear hH; subst hκ; delta kid at *; (try dsimp only at *))
    all_goals (try (exact ⟨by decide⟩))
    all_goals (try (exact rfl))
    · exact IsX.ans_ (fault_d (c := (⟨c1, c2, c3, c4, c5, c6, c7, c8, c9⟩ : Cl)) hside (by with_reducible assumption) (by with_reducible assumption) (by with_reducible assumption) (by with_reducible assumption) (by with_reducible assumption) 0 (by decide) (bit_y (b := 1) (by with_reducible assumption) (by with_reducible assumption))) rfl
    · refine ⟨⟨⟨0 + 1, by decide, bits_next hok (bit_b (b := 1) (by with_reducible assumption))⟩, [3, 4, 6], (by show 3 - (0 + 1) < 3 - 0; decide), by decide, ?_, ?_⟩⟩
      all_goals repeat' (first | exact rfl | exact trivial | refine And.intro ?_ ?_)
    · refine ⟨⟨⟨0 + 1, by decide, bits_next hok (bit_a (b := 1) (by with_reducible assumption))⟩, [3, 4, 6], (by show 3 - (0 + 1) < 3 - 0; decide), by decide, ?_, ?_⟩⟩
      all_goals repeat' (first | exact rfl | exact trivial | refine And.intro ?_ ?_)
  · cbv
    refine tst_mk (fun h => ?_) (fun h => ?_)
    rotate_left
    · subst hκ; delta kid at h; exact absurd h (by decide)
    cbv
    repeat' (first | refine And.intro ?_ ?_ | (intro _; cbv) | (refine tst_mk (fun h => ?_) (fun h => ?_) <;> cbv) | (refine LookX.nil ?_; cbv) | (refine LookX.auto hκ ?_; cbv) | (refine LookR.mk' (x := .v (.bool (κ _ (nthP (ofL l) (c2 / 4096).toNat).is))) (by subst hκ; delta kid at *; exact adr_isZ (ofL_len l) (by with_reducible assumption) (by with_reducible assumption)) ?_; cbv) | (refine LookN.mk' (x := [.v (.int .i64 (κ _ (nthP (ofL l) (c2 / 4096).toNat).t.p)), .v (.bool (κ _ (nthP (ofL l) (c2 / 4096).toNat).t.sh)), .v (.int .i64 (κ _ (nthP (ofL l) (c2 / 4096).toNat).t.b)), .v (.int .i64 (κ _ (nthP (ofL l) (c2 / 4096).toNat).t.o))]) (by subst hκ; delta kid at *; exact adr_attrZ (ofL_len l) (by with_reducible assumption) (by with_reducible assumption)) ?_; cbv))
    all_goals (clear hH; subst hκ; delta kid at *; (try dsimp only at *))
    all_goals (try (exact ⟨by decide⟩))
    all_goals (try (exact rfl))
    · exact IsX.ans_ (fault_d (c := (⟨c1, c2, c3, c4, c5, c6, c7, c8, c9⟩ : Cl)) hside (by with_reducible assumption) (by with_reducible assumption) (by with_reducible assumption) (by with_reducible assumption) (by with_reducible assumption) 1 (by decide) (bit_y (b := 2) (by with_reducible assumption) (by with_reducible assumption))) rfl
    · refine ⟨⟨⟨1 + 1, by decide, bits_next hok (bit_b (b := 2) (by with_reducible assumption))⟩, [3, 4, 6], (by show 3 - (1 + 1) < 3 - 1; decide), by decide, ?_, ?_⟩⟩
      all_goals repeat' (first | exact rfl | exact trivial | refine And.intro ?_ ?_)
    · refine ⟨⟨⟨1 + 1, by decide, bits_next hok (bit_a (b := 2) (by with_reducible assumption))⟩, [3, 4, 6], (by show 3 - (1 + 1) < 3 - 1; decide), by decide, ?_, ?_⟩⟩
      all_goals repeat' (first | exact rfl | exact trivial | refine And.intro ?_ ?_)
  · cbv
    refine tst_mk (fun h => ?_) (fun h => ?_)
    rotate_left
    · subst hκ; delta kid at h; exact absurd h (by decide)
    cbv
    repeat' (first | refine And.intro ?_ ?_ | (intro _; cbv) | (refine tst_mk (fun h => ?_) (fun h => ?_) <;> cbv) | (refine LookX.nil ?_; cbv) | (refine LookX.auto hκ ?_; cbv) | (refine LookR.mk' (x := .v (.bool (κ _ (nthP (ofL l) (c2 / 4096).toNat).is))) (by subst hκ; delta kid at *; exact adr_isZ (ofL_len l) (by with_reducible assumption) (by with_reducible assumption)) ?_; cbv) | (refine LookN.mk' (x := [.v (.int .i64 (κ _ (nthP (ofL l) (c2 / 4096).toNat).t.p)), .v (.bool (κ _ (nthP (ofL l) (c2 / 4096).toNat).t.sh)), .v (.int .i64 (κ _ (nthP (ofL l) (c2 / 4096).toNat).t.b)), .v (.int .i64 (κ _ (nthP (ofL l) (c2 / 4096).toNat).t.o))]) (by subst hκ; delta kid at *; exact adr_attrZ (ofL_len l) (by with_reducible assumption) (by with_reducible assumption)) ?_; cbv))
    all_goals (clear hH; subst hκ; delta kid at *; (try dsimp only at *))
    all_goals (try (exact ⟨by decide⟩))
    all_goals (try (exact rfl))
    · exact IsX.ans_ (fault_d (c := (⟨c1, c2, c3, c4, c5, c6, c7, c8, c9⟩ : Cl)) hside (by with_reducible assumption) (by with_reducible assumption) (by with_reducible assumption) (by with_reducible assumption) (by with_reducible assumption) 2 (by decide) (bit_y (b := 4) (by with_reducible assumption) (by with_reducible assumption))) rfl
    · refine ⟨⟨⟨2 + 1, by decide, bits_next hok (bit_b (b := 4) (by with_reducible assumption))⟩, [3, 4, 6], (by show 3 - (2 + 1) < 3 - 2; decide), by decide, ?_, ?_⟩⟩
      all_goals repeat' (first | exact rfl | exact trivial | refine And.intro ?_ ?_)
    · refine ⟨⟨⟨2 + 1, by decide, bits_next hok (bit_a (b := 4) (by with_reducible assumption))⟩, [3, 4, 6], (by show 3 - (2 + 1) < 3 - 2; decide), by decide, ?_, ?_⟩⟩
      all_goals repeat' (first | exact rfl | exact trivial | refine And.intro ?_ ?_)
  · cbv
    refine tst_mk (fun h => ?_) (fun h => ?_)
    · subst hκ; delta kid at h; exact absurd h (by decide)
    cbv
    repeat' (first | refine And.intro ?_ ?_ | (intro _; cbv) | (refine tst_mk (fun h => ?_) (fun h => ?_) <;> cbv) | (refine LookX.nil ?_; cbv) | (refine LookX.auto hκ ?_; cbv) | (refine LookR.mk' (x := .v (.bool (κ _ (nthP (ofL l) (c2 / 4096).toNat).is))) (by subst hκ; delta kid at *; exact adr_isZ (ofL_len l) (by with_reducible assumption) (by with_reducible assumption)) ?_; cbv) | (refine LookN.mk' (x := [.v (.int .i64 (κ _ (nthP (ofL l) (c2 / 4096).toNat).t.p)), .v (.bool (κ _ (nthP (ofL l) (c2 / 4096).toNat).t.sh)), .v (.int .i64 (κ _ (nthP (ofL l) (c2 / 4096).toNat).t.b)), .v (.int .i64 (κ _ (nthP (ofL l) (c2 / 4096).toNat).t.o))]) (by subst hκ; delta kid at *; exact adr_attrZ (ofL_len l) (by with_reducible assumption) (by with_reducible assumption)) ?_; cbv))
    all_goals (clear hH; subst hκ; delta kid at *; (try dsimp only at *))
    all_goals (try (exact rfl))
    exact IsX.ans_ (fault_e (c := (⟨c1, c2, c3, c4, c5, c6, c7, c8, c9⟩ : Cl)) hside (by with_reducible assumption) (by with_reducible assumption) (by with_reducible assumption) (by with_reducible assumption) (by with_reducible assumption) hok) rfl
def e_rfault {κ : Kp} (hκ : κ = kid) : ESpec Tryz.prog := fnES [.list, .flat] b_rfault F_rfault hκ fun avs p r hF hp => by
  unfold F_rfault at hF
  split at hF
  case h_2 => cases hF
  rename_i l xl c1 c2 c3 c4 c5 c6 c7 c8 c9
  simp only [kid, Option.some.injEq, Prod.mk.injEq] at hF
  obtain ⟨rfl, rfl⟩ := hF
  refine ⟨trivial, fun vs w hR => ?_⟩
  obtain ⟨il, Al, cl, vs0, rfl, rfl, hl, hR⟩ := hR
  obtain ⟨vs1, rfl, hR⟩ := hR
  have hR' : vs1 = [] := hR
  subst hR'
  exact k_rfault l c1 c2 c3 c4 c5 c6 c7 c8 c9 Al cl hp w hl
theorem b_rkept : Bodied Tryz.prog 55 := bodied Tryz.func55 rfl (by decide)
def F_rkept : FunX := fun κ avs => match avs with
  | [.lst was xwas, .spc s, .val (.c (.v (.int .i64 va)))] => some (κ _ (True), (.alt ((κ _ (decide ((24 : Int) < ((listS s).length : Int))))) (xwas) (fun x => .tup [.c x, .agg [.v (.int .i64 9), .v (.int .i64 0), .v (.int .i64 0), .v (.bool false), .v (.int .i64 0), .v (.int .i64 0)]]) ((κ _ (listS s))) (fun x => .tup [.c x, .agg [.v (.int .i64 0), .v (.int .i64 (κ _ (va))), .v (.int .i64 0), .v (.bool false), .v (.int .i64 0), .v (.int .i64 0)]])))
  | _ => none
set_option maxRecDepth 100000 in
set_option maxHeartbeats 4000000 in
theorem k_rkept (was : List Ar) (s : List Pg) (va : Int) (Awas : Option Addr) (cwas : Nat) (hside : True) (ns : s.length = 512) (w : World) (hwas : (Ent.rd Awas 6 was.length (encL was)).holds w) :
    Calls Tryz.prog 55 #[.slice Awas was.length cwas, (SV.agg (encS s)).den, (SV.c (.v (.int .i64 va))).den] w fun e w' => ∃ v H', e = .returned v.den ∧ IsX (.alt ((decide ((24 : Int) < ((listS s).length : Int)))) (.sl 200000 Awas was.length cwas) (fun x => .tup [.c x, .agg [.v (.int .i64 9), .v (.int .i64 0), .v (.int .i64 0), .v (.bool false), .v (.int .i64 0), .v (.int .i64 0)]]) ((listS s)) (fun x => .tup [.c x, .agg [.v (.int .i64 0), .v (.int .i64 (va)), .v (.int .i64 0), .v (.bool false), .v (.int .i64 0), .v (.int .i64 0)]])) v H' ∧ HSat w (fun _ => False) H' w' := by
  obtain ⟨κ, hκ⟩ : ∃ κ : Kp, κ = kid := ⟨_, rfl⟩
  have hH : HSat w (fun _ => False) (heapOf [(nilId, .rd none 1 0 []), (200000, .rd Awas 6 (κ _ was.length) (κ _ (encL was)))]) w := by
    subst hκ
    refine HSat.reads fun p hp => ?_
    simp only [List.mem_cons, List.not_mem_nil, or_false] at hp
    rcases hp with rfl | rfl
    · exact ⟨_, _, _, _, rfl, nil_holds w⟩
    · exact ⟨_, _, _, _, rfl, hwas⟩
  refine (callsP (n := 19) FTok [e_rlist hκ] mixed [] Tryz.func55 rfl (by kernel_rfl) #[.slice Awas was.length cwas, (SV.agg (encS s)).den, (SV.c (.v (.int .i64 va))).den] [(0, .c (.sl 200000 Awas (κ _ was.length) cwas)), (1, .agg (κ _ (encS s))), (2, .c (.v (.int .i64 va)))] _ w rfl [.tmp 6, .cell 7 33] rfl (by simp) (by subst hκ; simp [SV.den, C.den, kid]) hH (fun v H' => IsX (.alt ((κ _ (decide ((24 : Int) < ((listS s).length : Int))))) (.sl 200000 Awas (κ _ was.length) cwas) (fun x => .tup [.c x, .agg [.v (.int .i64 9), .v (.int .i64 0), .v (.int .i64 0), .v (.bool false), .v (.int .i64 0), .v (.int .i64 0)]]) ((κ _ (listS s))) (fun x => .tup [.c x, .agg [.v (.int .i64 0), .v (.int .i64 (κ _ (va))), .v (.int .i64 0), .v (.bool false), .v (.int .i64 0), .v (.int .i64 0)]])) v H') hκ ?_).mono ?_
  rotate_left
  · subst hκ; intro e w' h; exact h
  intro P' hP'
  cbv
  repeat' (first | refine And.intro ?_ ?_ | (intro _; cbv) | (refine tst_mk (fun h => ?_) (fun h => ?_) <;> cbv) | (refine LookX.nil ?_; cbv) | (refine LookX.auto hκ ?_; cbv) | (refine LookN.mk' (x := κ _ (encS s)) (by subst hκ; delta kid at *; exact whole_take ns) ?_; cbv))
  all_goals (try (show _ = true; subst hκ; delta kid; (have ho := encS_ok (s); generalize encS (s) = xs at ho ⊢; cases xs <;> exact ho)))
  all_goals (try (show Side _; refine ⟨?_⟩; subst hκ; delta kid at *; first | exact rfl | exact trivial | exact ⟨rfl, rfl, .inl rfl⟩ | exact ns | ((try dsimp only at *); (try simp only [setTo_len, noS_len, List.length_append, List.length_cons, List.length_nil, List.length_map, and_self, true_or, or_true, eq_self, true_and, and_true, Nat.zero_add, Nat.add_zero]); (first | done | omega); done)))
  all_goals (try (exact ⟨by subst hκ; exact ns⟩))
  all_goals (clear hH; subst hκ; delta kid at *; (try dsimp only at *))
  all_goals (show IsX _ _ _; first | exact IsX.sameM rfl (fun x => rfl) (by with_reducible assumption) | exact IsX.newM rfl rfl (fun x => rfl) (by with_reducible assumption) rfl)
def e_rkept {κ : Kp} (hκ : κ = kid) : ESpec Tryz.prog := fnES [.list, .space, .flat] b_rkept F_rkept hκ fun avs p r hF hp => by
  unfold F_rkept at hF
  split at hF
  case h_2 => cases hF
  rename_i was xwas s va
  simp only [kid, Option.some.injEq, Prod.mk.injEq] at hF
  obtain ⟨rfl, rfl⟩ := hF
  refine ⟨fun x y h => by simp [SV.den, SV.den0, h], fun vs w hR => ?_⟩
  obtain ⟨iwas, Awas, cwas, vs0, rfl, rfl, hwas, hR⟩ := hR
  obtain ⟨vs1, rfl, ns, hR⟩ := hR
  obtain ⟨vs2, rfl, hR⟩ := hR
  have hR' : vs2 = [] := hR
  subst hR'
  exact (k_rkept was s va Awas cwas hp ns w hwas).mono fun e w' ⟨v, H', h1, h2, h3⟩ => ⟨v, H', h1, h2.swap rfl, h3⟩
theorem b_rprotect : Bodied Tryz.prog 21 := bodied Tryz.func21 rfl (by decide)
def F_rprotect : FunX := fun κ avs => match avs with
  | [.lst l xl, .val (.agg [.v (.int .i64 c1), .v (.int .i64 c2), .v (.int .i64 c3), .v (.int .i64 c4), .v (.int .i64 c5), .v (.int .i64 c6), .v (.int .i64 c7), .v (.int .i64 c8), .v (.int .i64 c9)])] => some (κ _ (mayS l = true ∧ In64 (⟨c1, c2, c3, c4, c5, c6, c7, c8, c9⟩ : Cl).a), (.alt ((κ _ ((protN l (⟨c1, c2, c3, c4, c5, c6, c7, c8, c9⟩ : Cl)).er != 0))) (xl) (fun x => .tup [.c x, .agg [.v (.int .i64 (κ _ ((protN l (⟨c1, c2, c3, c4, c5, c6, c7, c8, c9⟩ : Cl)).er))), .v (.int .i64 (κ _ ((protN l (⟨c1, c2, c3, c4, c5, c6, c7, c8, c9⟩ : Cl)).v))), .v (.int .i64 (κ _ ((protN l (⟨c1, c2, c3, c4, c5, c6, c7, c8, c9⟩ : Cl)).t.p))), .v (.bool (κ _ ((protN l (⟨c1, c2, c3, c4, c5, c6, c7, c8, c9⟩ : Cl)).t.sh))), .v (.int .i64 (κ _ ((protN l (⟨c1, c2, c3, c4, c5, c6, c7, c8, c9⟩ : Cl)).t.b))), .v (.int .i64 (κ _ ((protN l (⟨c1, c2, c3, c4, c5, c6, c7, c8, c9⟩ : Cl)).t.o)))]]) ((κ _ (protL l (⟨c1, c2, c3, c4, c5, c6, c7, c8, c9⟩ : Cl)))) (fun x => .tup [.c x, .agg [.v (.int .i64 (κ _ ((protN l (⟨c1, c2, c3, c4, c5, c6, c7, c8, c9⟩ : Cl)).er))), .v (.int .i64 (κ _ ((protN l (⟨c1, c2, c3, c4, c5, c6, c7, c8, c9⟩ : Cl)).v))), .v (.int .i64 (κ _ ((protN l (⟨c1, c2, c3, c4, c5, c6, c7, c8, c9⟩ : Cl)).t.p))), .v (.bool (κ _ ((protN l (⟨c1, c2, c3, c4, c5, c6, c7, c8, c9⟩ : Cl)).t.sh))), .v (.int .i64 (κ _ ((protN l (⟨c1, c2, c3, c4, c5, c6, c7, c8, c9⟩ : Cl)).t.b))), .v (.int .i64 (κ _ ((protN l (⟨c1, c2, c3, c4, c5, c6, c7, c8, c9⟩ : Cl)).t.o)))]])))
  | _ => none
set_option maxRecDepth 100000 in
set_option maxHeartbeats 4000000 in
theorem k_rprotect (l : List Ar) (c1 : Int) (c2 : Int) (c3 : Int) (c4 : Int) (c5 : Int) (c6 : Int) (c7 : Int) (c8 : Int) (c9 : Int) (Al : Option Addr) (cl : Nat) (hside : mayS l = true ∧ In64 (⟨c1, c2, c3, c4, c5, c6, c7, c8, c9⟩ : Cl).a) (w : World) (hl : (Ent.rd Al 6 l.length (encL l)).holds w) :
    Calls Tryz.prog 21 #[.slice Al l.length cl, (SV.agg [.v (.int .i64 c1), .v (.int .i64 c2), .v (.int .i64 c3), .v (.int .i64 c4), .v (.int .i64 c5), .v (.int .i64 c6), .v (.int .i64 c7), .v (.int .i64 c8), .v (.int .i64 c9)]).den] w fun e w' => ∃ v H', e = .returned v.den ∧ IsX (.alt (((protN l (⟨c1, c2, c3, c4, c5, c6, c7, c8, c9⟩ : Cl)).er != 0)) (.sl 200000 Al l.length cl) (fun x => .tup [.c x, .agg [.v (.int .i64 ((protN l (⟨c1, c2, c3, c4, c5, c6, c7, c8, c9⟩ : Cl)).er)), .v (.int .i64 ((protN l (⟨c1, c2, c3, c4, c5, c6, c7, c8, c9⟩ : Cl)).v)), .v (.int .i64 ((protN l (⟨c1, c2, c3, c4, c5, c6, c7, c8, c9⟩ : Cl)).t.p)), .v (.bool ((protN l (⟨c1, c2, c3, c4, c5, c6, c7, c8, c9⟩ : Cl)).t.sh)), .v (.int .i64 ((protN l (⟨c1, c2, c3, c4, c5, c6, c7, c8, c9⟩ : Cl)).t.b)), .v (.int .i64 ((protN l (⟨c1, c2, c3, c4, c5, c6, c7, c8, c9⟩ : Cl)).t.o))]]) ((protL l (⟨c1, c2, c3, c4, c5, c6, c7, c8, c9⟩ : Cl))) (fun x => .tup [.c x, .agg [.v (.int .i64 ((protN l (⟨c1, c2, c3, c4, c5, c6, c7, c8, c9⟩ : Cl)).er)), .v (.int .i64 ((protN l (⟨c1, c2, c3, c4, c5, c6, c7, c8, c9⟩ : Cl)).v)), .v (.int .i64 ((protN l (⟨c1, c2, c3, c4, c5, c6, c7, c8, c9⟩ : Cl)).t.p)), .v (.bool ((protN l (⟨c1, c2, c3, c4, c5, c6, c7, c8, c9⟩ : Cl)).t.sh)), .v (.int .i64 ((protN l (⟨c1, c2, c3, c4, c5, c6, c7, c8, c9⟩ : Cl)).t.b)), .v (.int .i64 ((protN l (⟨c1, c2, c3, c4, c5, c6, c7, c8, c9⟩ : Cl)).t.o))]])) v H' ∧ HSat w (fun _ => False) H' w' := by
  obtain ⟨κ, hκ⟩ : ∃ κ : Kp, κ = kid := ⟨_, rfl⟩
  have hH : HSat w (fun _ => False) (heapOf [(nilId, .rd none 1 0 []), (200000, .rd Al 6 (κ _ l.length) (κ _ (encL l)))]) w := by
    subst hκ
    refine HSat.reads fun p hp => ?_
    simp only [List.mem_cons, List.not_mem_nil, or_false] at hp
    rcases hp with rfl | rfl
    · exact ⟨_, _, _, _, rfl, nil_holds w⟩
    · exact ⟨_, _, _, _, rfl, hl⟩
  refine (callsP (n := 67) FTok [e_rrange hκ, e_of hκ, e_rkept hκ] mixed [] Tryz.func21 rfl (by kernel_rfl) #[.slice Al l.length cl, (SV.agg [.v (.int .i64 c1), .v (.int .i64 c2), .v (.int .i64 c3), .v (.int .i64 c4), .v (.int .i64 c5), .v (.int .i64 c6), .v (.int .i64 c7), .v (.int .i64 c8), .v (.int .i64 c9)]).den] [(0, .c (.sl 200000 Al (κ _ l.length) cl)), (1, .agg [.v (.int .i64 c1), .v (.int .i64 c2), .v (.int .i64 c3), .v (.int .i64 c4), .v (.int .i64 c5), .v (.int .i64 c6), .v (.int .i64 c7), .v (.int .i64 c8), .v (.int .i64 c9)])] _ w rfl [.tmp 4, .cell 5 33] rfl (by simp) (by subst hκ; simp [SV.den, C.den, kid]) hH (fun v H' => IsX (.alt ((κ _ ((protN l (⟨c1, c2, c3, c4, c5, c6, c7, c8, c9⟩ : Cl)).er != 0))) (.sl 200000 Al (κ _ l.length) cl) (fun x => .tup [.c x, .agg [.v (.int .i64 (κ _ ((protN l (⟨c1, c2, c3, c4, c5, c6, c7, c8, c9⟩ : Cl)).er))), .v (.int .i64 (κ _ ((protN l (⟨c1, c2, c3, c4, c5, c6, c7, c8, c9⟩ : Cl)).v))), .v (.int .i64 (κ _ ((protN l (⟨c1, c2, c3, c4, c5, c6, c7, c8, c9⟩ : Cl)).t.p))), .v (.bool (κ _ ((protN l (⟨c1, c2, c3, c4, c5, c6, c7, c8, c9⟩ : Cl)).t.sh))), .v (.int .i64 (κ _ ((protN l (⟨c1, c2, c3, c4, c5, c6, c7, c8, c9⟩ : Cl)).t.b))), .v (.int .i64 (κ _ ((protN l (⟨c1, c2, c3, c4, c5, c6, c7, c8, c9⟩ : Cl)).t.o)))]]) ((κ _ (protL l (⟨c1, c2, c3, c4, c5, c6, c7, c8, c9⟩ : Cl)))) (fun x => .tup [.c x, .agg [.v (.int .i64 (κ _ ((protN l (⟨c1, c2, c3, c4, c5, c6, c7, c8, c9⟩ : Cl)).er))), .v (.int .i64 (κ _ ((protN l (⟨c1, c2, c3, c4, c5, c6, c7, c8, c9⟩ : Cl)).v))), .v (.int .i64 (κ _ ((protN l (⟨c1, c2, c3, c4, c5, c6, c7, c8, c9⟩ : Cl)).t.p))), .v (.bool (κ _ ((protN l (⟨c1, c2, c3, c4, c5, c6, c7, c8, c9⟩ : Cl)).t.sh))), .v (.int .i64 (κ _ ((protN l (⟨c1, c2, c3, c4, c5, c6, c7, c8, c9⟩ : Cl)).t.b))), .v (.int .i64 (κ _ ((protN l (⟨c1, c2, c3, c4, c5, c6, c7, c8, c9⟩ : Cl)).t.o)))]])) v H') hκ ?_).mono ?_
  rotate_left
  · subst hκ; intro e w' h; exact h
  intro P' hP'
  cbv
  have hrt := mayS_rt hside.1
  repeat' (first | refine And.intro ?_ ?_ | (intro _; cbv) | (refine tst_mk (fun h => ?_) (fun h => ?_) <;> cbv) | (refine LookX.nil ?_; cbv) | (refine LookX.auto hκ ?_; cbv))
  all_goals (try (show Side _; refine ⟨?_⟩; subst hκ; delta kid at *; first | exact rfl | exact trivial | exact ⟨rfl, rfl, .inl rfl⟩ | exact hside.2 | exact ⟨hrt.1.1, by omega⟩ | exact (proP_len _ _ _ _).trans (ofL_len l) | ((try dsimp only at *); (try simp only [setTo_len, noS_len, List.length_append, List.length_cons, List.length_nil, List.length_map, and_self, true_or, or_true, eq_self, true_and, and_true, Nat.zero_add, Nat.add_zero]); (first | done | omega); done)))
  all_goals (try (show _ = true; subst hκ; delta kid; (have ho := encS_ok (ofL l); generalize encS (ofL l) = xs at ho ⊢; cases xs <;> exact ho)))
  all_goals (try (show 2560 = _; subst hκ; delta kid; (have ho := encS_len2 (s := ofL l) (ofL_len l); generalize encS (ofL l) = xs at ho ⊢; cases xs <;> exact ho.symm)))
  all_goals (try (show Side _; subst hκ; delta kid; refine ⟨?_⟩; rw [encS_noS, encS_len, encS_len, ofL_len l, noS_len]; omega))
  · rename_i b3 b5 h1 b9
    refine loopP hP' FTok [e_rrange hκ, e_of hκ, e_rkept hκ] mixed [0, 3, 5, 7, 8, 9, 10] (σ := Unit) (fun _ => []) (fun _ => [(200000, .rd Al 6 (κ _ l.length) (κ _ (encL l))), (5, .blk b5 33 [.v (.int .i64 0), .v (.int .i64 0), .v (.int .i64 0), .v (.bool false), .v (.int .i64 0), .v (.int .i64 0)])]) (fun _ => 0) () [200000, 5] ?_ (by decide) ?_ hκ ?_
    · cbv
      all_goals (subst hκ; delta kid; repeat' (first | exact rfl | exact trivial | refine And.intro ?_ ?_))
    · cbv
      all_goals (subst hκ; delta kid; repeat' (first | exact rfl | exact trivial | refine And.intro ?_ ?_))
    intro _
    cbv
    repeat' (first | refine And.intro ?_ ?_ | (intro _; cbv) | (refine tst_mk (fun h => ?_) (fun h => ?_) <;> cbv) | (refine LookX.nil ?_; cbv) | (refine LookX.auto hκ ?_; cbv))
    all_goals (try (show Side _; refine ⟨?_⟩; subst hκ; delta kid at *; first | exact rfl | exact trivial | exact ⟨rfl, rfl, .inl rfl⟩ | exact hside.2 | exact ⟨hrt.1.1, by omega⟩ | exact (proP_len _ _ _ _).trans (ofL_len l) | ((try dsimp only at *); (try simp only [setTo_len, noS_len, List.length_append, List.length_cons, List.length_nil, List.length_map, and_self, true_or, or_true, eq_self, true_and, and_true, Nat.zero_add, Nat.add_zero]); (first | done | omega); done)))
    all_goals (clear hH; subst hκ; delta kid at *; (try dsimp only at *))
    all_goals (first | exact absurd h (by decide) | fail | skip)
    all_goals (have hw : wrE l (⟨c1, c2, c3, c4, c5, c6, c7, c8, c9⟩ : Cl) = _ := wr_prot (c := (⟨c1, c2, c3, c4, c5, c6, c7, c8, c9⟩ : Cl)) hside.1 (by with_reducible assumption) (.inl (by with_reducible assumption)); have hb := pro_bad hw (by decide); refine IsX.sameM rfl (fun x => ?_) hb.2.2; simp only [hb.1, errA, noAt])
  · rename_i b3 b5 h1 h2 b9
    refine loopP hP' FTok [e_rrange hκ, e_of hκ, e_rkept hκ] mixed [0, 3, 5, 7, 8, 9, 10] (σ := Unit) (fun _ => []) (fun _ => [(200000, .rd Al 6 (κ _ l.length) (κ _ (encL l))), (5, .blk b5 33 [.v (.int .i64 0), .v (.int .i64 0), .v (.int .i64 0), .v (.bool false), .v (.int .i64 0), .v (.int .i64 0)])]) (fun _ => 0) () [200000, 5] ?_ (by decide) ?_ hκ ?_
    · cbv
      all_goals (subst hκ; delta kid; repeat' (first | exact rfl | exact trivial | refine And.intro ?_ ?_))
    · cbv
      all_goals (subst hκ; delta kid; repeat' (first | exact rfl | exact trivial | refine And.intro ?_ ?_))
    intro _
    cbv
    repeat' (first | refine And.intro ?_ ?_ | (intro _; cbv) | (refine tst_mk (fun h => ?_) (fun h => ?_) <;> cbv) | (refine LookX.nil ?_; cbv) | (refine LookX.auto hκ ?_; cbv))
    all_goals (try (show Side _; refine ⟨?_⟩; subst hκ; delta kid at *; first | exact rfl | exact trivial | exact ⟨rfl, rfl, .inl rfl⟩ | exact hside.2 | exact ⟨hrt.1.1, by omega⟩ | exact (proP_len _ _ _ _).trans (ofL_len l) | ((try dsimp only at *); (try simp only [setTo_len, noS_len, List.length_append, List.length_cons, List.length_nil, List.length_map, and_self, true_or, or_true, eq_self, true_and, and_true, Nat.zero_add, Nat.add_zero]); (first | done | omega); done)))
    all_goals (clear hH; subst hκ; delta kid at *; (try dsimp only at *))
    all_goals (first | exact absurd h (by decide) | fail | skip)
    all_goals (have hw : wrE l (⟨c1, c2, c3, c4, c5, c6, c7, c8, c9⟩ : Cl) = _ := wr_prot (c := (⟨c1, c2, c3, c4, c5, c6, c7, c8, c9⟩ : Cl)) hside.1 (by with_reducible assumption) (.inr (by with_reducible assumption)); have hb := pro_bad hw (by decide); refine IsX.sameM rfl (fun x => ?_) hb.2.2; simp only [hb.1, errA, noAt])
  · rename_i b3 b5 h1 h2 b9
    have hr : rangeE c2 c3 = 0 := by subst hκ; exact beq_yes h1
    have hp1 : decide (c6 < 0) = false := by subst hκ; exact h2
    have hp2 : decide (7 < c6) = false := by subst hκ; exact h
    clear h1 h2 h
    have hg := (range_ok hr).1
    obtain ⟨q0, e0⟩ : ∃ q, q = (rangeLo c2 c3 / 4096).toNat := ⟨_, rfl⟩
    obtain ⟨q1, e1⟩ : ∃ q, q = (rangeHi c2 c3 / 4096).toNat := ⟨_, rfl⟩
    have hg1 := hg.lo
    have hg2 := hg.hi
    have hg3 := hg.lt
    have w0 : IntKind.i64.wrap (Int.tdiv (rangeLo c2 c3) 4096) = (q0 : Int) := by rw [e0]; exact (pro_q (by omega) (by omega)).1
    have w1 : IntKind.i64.wrap (Int.tdiv (rangeHi c2 c3) 4096) = (q1 : Int) := by rw [e1]; exact (pro_q (by omega) (by omega)).1
    have hq1 : q1 ≤ 512 := by omega
    have hq0 : q0 ≤ q1 := by omega
    refine loopP hP' FTok [e_rrange hκ, e_of hκ, e_rkept hκ] mixed [0, 3, 5, 7, 9] (σ := {k : Nat // q0 + k ≤ q1}) (fun q => [(8, .c (.v (.int .i64 (κ _ (errK (ofL l) q0 q.1))))), (10, .c (.v (.int .i64 (κ _ ((q0 + q.1 : Nat) : Int)))))]) (fun q => [(200000, .rd Al 6 (κ _ l.length) (κ _ (encL l))), (3, .blk b3 37 [.v (.int .i64 c1), .v (.int .i64 c2), .v (.int .i64 c3), .v (.int .i64 c4), .v (.int .i64 c5), .v (.int .i64 c6), .v (.int .i64 c7), .v (.int .i64 c8), .v (.int .i64 c9)]), (5, .blk b5 33 [.v (.int .i64 0), .v (.int .i64 0), .v (.int .i64 0), .v (.bool false), .v (.int .i64 0), .v (.int .i64 0)]), (9, .blk b9 90 (κ _ (encS (proP c6 q0 (ofL l) q.1))))]) (fun q => q1 - (q0 + q.1)) ⟨0, hq0⟩ [200000, 3, 5, 9] ?_ (by decide) ?_ hκ ?_
    · cbv
      all_goals (subst hκ; delta kid; repeat' (first | exact rfl | exact trivial | refine And.intro ?_ ?_ | exact congrArg (Value.int .i64) hr | exact congrArg (Value.int .i64) w0))
    · cbv
      all_goals (subst hκ; delta kid; repeat' (first | exact rfl | exact trivial | refine And.intro ?_ ?_ | (rw [zero_put (ofL_len _)]; rfl)))
    rintro ⟨k, hk⟩
    cbv
    refine ⟨⟨by subst hκ; delta kid; decide⟩, ?_⟩
    refine tst_mk (fun h => ?_) (fun h => ?_)
    · have hx : q0 + k < q1 := by subst hκ; delta kid at h; exact pro_lt w1 h
      have hk5 : q0 + k < 512 := by omega
      cbv
      refine tst_mk (fun h => ?_) (fun h => ?_)
      · cbv
        repeat' (first | refine And.intro ?_ ?_ | (intro _; cbv) | (refine tst_mk (fun h => ?_) (fun h => ?_) <;> cbv) | (refine LookX.nil ?_; cbv) | (refine LookX.auto hκ ?_; cbv) | (refine LookR.mk' (x := .v (.bool (κ _ (nthP (ofL l) (q0 + k)).is))) (by subst hκ; delta kid at *; exact pro_is (ofL_len l) c6 hk5) ?_; cbv))
        all_goals (clear hH; subst hκ; delta kid at *; (try dsimp only at *))
        all_goals (try (exact ⟨pro_ix hx hq1⟩))
        all_goals (try (exact ⟨Nat.zero_lt_one, pro_fit (ofL_len l) c6 hk5⟩))
        all_goals (try (exact ⟨pro_fit (ofL_len l) c6 hk5⟩))
        all_goals (try (exact rfl))
        all_goals (refine ⟨⟨⟨k + 1, by omega⟩, [200000, 3, 5, 9], (by show q1 - (q0 + (k + 1)) < q1 - (q0 + k); omega), by decide, ?_, ?_⟩⟩)
        all_goals repeat' (first | exact rfl | exact trivial | refine And.intro ?_ ?_ | exact congrArg (Value.int .i64) (errK_no (by with_reducible assumption)) | exact congrArg (Value.int .i64) (errK_yes (by with_reducible assumption) (by with_reducible assumption)) | exact congrArg (Value.int .i64) (nat_succ (by omega)) | exact congrArg (List.map C.den) (pro_put (ofL_len l) c6 hk5))
      · cbv
        repeat' (first | refine And.intro ?_ ?_ | (intro _; cbv) | (refine tst_mk (fun h => ?_) (fun h => ?_) <;> cbv) | (refine LookX.nil ?_; cbv) | (refine LookX.auto hκ ?_; cbv))
        all_goals (clear hH; subst hκ; delta kid at *; (try dsimp only at *))
        · have hb := pro_e7 (c := (⟨c1, c2, c3, c4, c5, c6, c7, c8, c9⟩ : Cl)) hside.1 hr hp1 hp2 e0 e1 hk (bne_yes (by with_reducible assumption))
          refine IsX.sameM rfl (fun x => ?_) hb.2.2.2
          simp only [hb.2.1, hb.1, errA, noAt]
        · exact absurd (bne_no h) (beq_no (by with_reducible assumption))
    · have hx : q0 + k = q1 := by subst hκ; delta kid at h; exact Nat.le_antisymm hk (pro_ge w1 h)
      cbv
      repeat' (first | refine And.intro ?_ ?_ | (intro _; cbv) | (refine tst_mk (fun h => ?_) (fun h => ?_) <;> cbv) | (refine LookX.nil ?_; cbv) | (refine LookX.auto hκ ?_; cbv) | (refine LookN.mk' (x := κ _ (encS (proP c6 q0 (ofL l) k))) (by subst hκ; delta kid at *; exact whole_take ((proP_len _ _ _ _).trans (ofL_len l))) ?_; cbv))
      all_goals (try (show Side _; refine ⟨?_⟩; subst hκ; delta kid at *; first | exact rfl | exact trivial | exact ⟨rfl, rfl, .inl rfl⟩ | exact hside.2 | exact ⟨hrt.1.1, by omega⟩ | exact (proP_len _ _ _ _).trans (ofL_len l) | ((try dsimp only at *); (try simp only [setTo_len, noS_len, List.length_append, List.length_cons, List.length_nil, List.length_map, and_self, true_or, or_true, eq_self, true_and, and_true, Nat.zero_add, Nat.add_zero]); (first | done | omega); done)))
      all_goals (clear hH; subst hκ; delta kid at *; (try dsimp only at *))
      · have hb := pro_e7 (c := (⟨c1, c2, c3, c4, c5, c6, c7, c8, c9⟩ : Cl)) hside.1 hr hp1 hp2 e0 e1 hk (bne_yes (by with_reducible assumption))
        refine IsX.sameM rfl (fun x => ?_) hb.2.2.2
        simp only [hb.2.1, hb.1, errA, noAt]
      · have hb := pro_same (c := (⟨c1, c2, c3, c4, c5, c6, c7, c8, c9⟩ : Cl)) hside.1 hr hp1 hp2 e0 e1 hx (bne_no (by with_reducible assumption)) (by with_reducible assumption)
        refine IsX.sameM rfl (fun x => ?_) hb.2
        simp only [hb.1, errA, noAt]
      · have hb := pro_new (c := (⟨c1, c2, c3, c4, c5, c6, c7, c8, c9⟩ : Cl)) hside.1 hr hp1 hp2 e0 e1 hx (bne_no (by with_reducible assumption)) (by with_reducible assumption)
        refine IsX.newM rfl rfl (fun x => ?_) hb.2.1 hb.2.2
        simp only [hb.1, okA, noAt]
  · rename_i b3 b5 b9
    have h1 := h
    refine loopP hP' FTok [e_rrange hκ, e_of hκ, e_rkept hκ] mixed [0, 3, 5, 7, 8, 9, 10] (σ := Unit) (fun _ => []) (fun _ => [(200000, .rd Al 6 (κ _ l.length) (κ _ (encL l))), (5, .blk b5 33 [.v (.int .i64 0), .v (.int .i64 0), .v (.int .i64 0), .v (.bool false), .v (.int .i64 0), .v (.int .i64 0)])]) (fun _ => 0) () [200000, 5] ?_ (by decide) ?_ hκ ?_
    · cbv
      all_goals (subst hκ; delta kid; repeat' (first | exact rfl | exact trivial | refine And.intro ?_ ?_))
    · cbv
      all_goals (subst hκ; delta kid; repeat' (first | exact rfl | exact trivial | refine And.intro ?_ ?_))
    intro _
    cbv
    repeat' (first | refine And.intro ?_ ?_ | (intro _; cbv) | (refine tst_mk (fun h => ?_) (fun h => ?_) <;> cbv) | (refine LookX.nil ?_; cbv) | (refine LookX.auto hκ ?_; cbv))
    all_goals (try (show Side _; refine ⟨?_⟩; subst hκ; delta kid at *; first | exact rfl | exact trivial | exact ⟨rfl, rfl, .inl rfl⟩ | exact hside.2 | exact ⟨hrt.1.1, by omega⟩ | exact (proP_len _ _ _ _).trans (ofL_len l) | ((try dsimp only at *); (try simp only [setTo_len, noS_len, List.length_append, List.length_cons, List.length_nil, List.length_map, and_self, true_or, or_true, eq_self, true_and, and_true, Nat.zero_add, Nat.add_zero]); (first | done | omega); done)))
    all_goals (clear hH; subst hκ; delta kid at *; (try dsimp only at *))
    all_goals (first | exact absurd h (by decide) | exact absurd (beq_yes h) (beq_no h1) | exact absurd (bne_no h) (beq_no h1) | skip)
    all_goals (have hw : wrE l (⟨c1, c2, c3, c4, c5, c6, c7, c8, c9⟩ : Cl) = _ := wr_range (c := (⟨c1, c2, c3, c4, c5, c6, c7, c8, c9⟩ : Cl)) hside.1 h1; have hb := pro_bad hw (beq_no h1); refine IsX.sameM rfl (fun x => ?_) hb.2.2; simp only [hb.1, errA, noAt])
def e_rprotect {κ : Kp} (hκ : κ = kid) : ESpec Tryz.prog := fnES [.list, .flat] b_rprotect F_rprotect hκ fun avs p r hF hp => by
  unfold F_rprotect at hF
  split at hF
  case h_2 => cases hF
  rename_i l xl c1 c2 c3 c4 c5 c6 c7 c8 c9
  simp only [kid, Option.some.injEq, Prod.mk.injEq] at hF
  obtain ⟨rfl, rfl⟩ := hF
  refine ⟨fun x y h => by simp [SV.den, SV.den0, h], fun vs w hR => ?_⟩
  obtain ⟨il, Al, cl, vs0, rfl, rfl, hl, hR⟩ := hR
  obtain ⟨vs1, rfl, hR⟩ := hR
  have hR' : vs1 = [] := hR
  subst hR'
  exact (k_rprotect l c1 c2 c3 c4 c5 c6 c7 c8 c9 Al cl hp w hl).mono fun e w' ⟨v, H', h1, h2, h3⟩ => ⟨v, H', h1, h2.swap rfl, h3⟩
end Go.Proofs.YtbcicjmepojlnaaGreat.Eng
