/- Texts of this work, laid together: symbolic execution over the model, contracts of the program's functions, what they come to; conditions: as each says. -/
import Derived.Test.YtbcicjmepojlnaaGreatPkGAX
import Derived.Test.YtbcicjmepojlnaaGreatPkGBJ
import Derived.Test.YtbcicjmepojlnaaGreatPkGBL
import Derived.Test.YtbcicjmepojlnaaGreatPkGBV
import Derived.Test.YtbcicjmepojlnaaGreatPkGBW
import Derived.Test.YtbcicjmepojlnaaGreatPkGBY
import Derived.Test.YtbcicjmepojlnaaGreatPkGBZ
import Derived.Test.YtbcicjmepojlnaaGreatPkGCA
/- Contracts of functions (printed by genx.py of this work): what each hands back; condition: as its 'hside' says. -/
namespace Go.Proofs.YtbcicjmepojlnaaGreat.Eng
open Go Go.RowKit
set_option linter.unusedVariables false
set_option linter.unusedSimpArgs false
theorem b_rdo : Bodied Tryz.prog 7 := bodied Tryz.func7 rfl (by decide)
def F_rdo : FunX2 := fun κ avs => match avs with
  | [.spv l xl lb, .val (.agg [.v (.int .i64 c1), .v (.int .i64 c2), .v (.int .i64 c3), .v (.int .i64 c4), .v (.int .i64 c5), .v (.int .i64 c6), .v (.int .i64 c7), .v (.int .i64 c8), .v (.int .i64 c9)])] => some (κ _ (spR l lb = true ∧ In64 (⟨c1, c2, c3, c4, c5, c6, c7, c8, c9⟩ : Cl).a ∧ In64 (⟨c1, c2, c3, c4, c5, c6, c7, c8, c9⟩ : Cl).to ∧ In64 (⟨c1, c2, c3, c4, c5, c6, c7, c8, c9⟩ : Cl).f ∧ In64 (⟨c1, c2, c3, c4, c5, c6, c7, c8, c9⟩ : Cl).o), (.alt ((κ _ (doSame l lb (⟨c1, c2, c3, c4, c5, c6, c7, c8, c9⟩ : Cl)))) (xl) (fun x => .tup [.agg [x, .v (.int .i64 (κ _ (doB l lb (⟨c1, c2, c3, c4, c5, c6, c7, c8, c9⟩ : Cl))))], .agg [.v (.int .i64 (κ _ ((doN l lb (⟨c1, c2, c3, c4, c5, c6, c7, c8, c9⟩ : Cl)).er))), .v (.int .i64 (κ _ ((doN l lb (⟨c1, c2, c3, c4, c5, c6, c7, c8, c9⟩ : Cl)).v))), .v (.int .i64 (κ _ ((doN l lb (⟨c1, c2, c3, c4, c5, c6, c7, c8, c9⟩ : Cl)).t.p))), .v (.bool (κ _ ((doN l lb (⟨c1, c2, c3, c4, c5, c6, c7, c8, c9⟩ : Cl)).t.sh))), .v (.int .i64 (κ _ ((doN l lb (⟨c1, c2, c3, c4, c5, c6, c7, c8, c9⟩ : Cl)).t.b))), .v (.int .i64 (κ _ ((doN l lb (⟨c1, c2, c3, c4, c5, c6, c7, c8, c9⟩ : Cl)).t.o)))]]) ((κ _ (doL l lb (⟨c1, c2, c3, c4, c5, c6, c7, c8, c9⟩ : Cl)))) (fun x => .tup [.agg [x, .v (.int .i64 (κ _ (doB l lb (⟨c1, c2, c3, c4, c5, c6, c7, c8, c9⟩ : Cl))))], .agg [.v (.int .i64 (κ _ ((doN l lb (⟨c1, c2, c3, c4, c5, c6, c7, c8, c9⟩ : Cl)).er))), .v (.int .i64 (κ _ ((doN l lb (⟨c1, c2, c3, c4, c5, c6, c7, c8, c9⟩ : Cl)).v))), .v (.int .i64 (κ _ ((doN l lb (⟨c1, c2, c3, c4, c5, c6, c7, c8, c9⟩ : Cl)).t.p))), .v (.bool (κ _ ((doN l lb (⟨c1, c2, c3, c4, c5, c6, c7, c8, c9⟩ : Cl)).t.sh))), .v (.int .i64 (κ _ ((doN l lb (⟨c1, c2, c3, c4, c5, c6, c7, c8, c9⟩ : Cl)).t.b))), .v (.int .i64 (κ _ ((doN l lb (⟨c1, c2, c3, c4, c5, c6, c7, c8, c9⟩ : Cl)).t.o)))]])))
  | _ => none
set_option maxRecDepth 100000 in
set_option maxHeartbeats 4000000 in
theorem k_rdo (l : List Ar) (lb : Int) (c1 : Int) (c2 : Int) (c3 : Int) (c4 : Int) (c5 : Int) (c6 : Int) (c7 : Int) (c8 : Int) (c9 : Int) (Al : Option Addr) (cl : Nat) (hside : spR l lb = true ∧ In64 (⟨c1, c2, c3, c4, c5, c6, c7, c8, c9⟩ : Cl).a ∧ In64 (⟨c1, c2, c3, c4, c5, c6, c7, c8, c9⟩ : Cl).to ∧ In64 (⟨c1, c2, c3, c4, c5, c6, c7, c8, c9⟩ : Cl).f ∧ In64 (⟨c1, c2, c3, c4, c5, c6, c7, c8, c9⟩ : Cl).o) (w : World) (hl : (Ent.rd Al 6 l.length (encL l)).holds w) :
    Calls Tryz.prog 7 #[(SV.agg [.sl 200000 Al l.length cl, .v (.int .i64 lb)]).den, (SV.agg [.v (.int .i64 c1), .v (.int .i64 c2), .v (.int .i64 c3), .v (.int .i64 c4), .v (.int .i64 c5), .v (.int .i64 c6), .v (.int .i64 c7), .v (.int .i64 c8), .v (.int .i64 c9)]).den] w fun e w' => ∃ v H', e = .returned v.den ∧ IsX (.alt ((doSame l lb (⟨c1, c2, c3, c4, c5, c6, c7, c8, c9⟩ : Cl))) (.sl 200000 Al l.length cl) (fun x => .tup [.agg [x, .v (.int .i64 (doB l lb (⟨c1, c2, c3, c4, c5, c6, c7, c8, c9⟩ : Cl)))], .agg [.v (.int .i64 ((doN l lb (⟨c1, c2, c3, c4, c5, c6, c7, c8, c9⟩ : Cl)).er)), .v (.int .i64 ((doN l lb (⟨c1, c2, c3, c4, c5, c6, c7, c8, c9⟩ : Cl)).v)), .v (.int .i64 ((doN l lb (⟨c1, c2, c3, c4, c5, c6, c7, c8, c9⟩ : Cl)).t.p)), .v (.bool ((doN l lb (⟨c1, c2, c3, c4, c5, c6, c7, c8, c9⟩ : Cl)).t.sh)), .v (.int .i64 ((doN l lb (⟨c1, c2, c3, c4, c5, c6, c7, c8, c9⟩ : Cl)).t.b)), .v (.int .i64 ((doN l lb (⟨c1, c2, c3, c4, c5, c6, c7, c8, c9⟩ : Cl)).t.o))]]) ((doL l lb (⟨c1, c2, c3, c4, c5, c6, c7, c8, c9⟩ : Cl))) (fun x => .tup [.agg [x, .v (.int .i64 (doB l lb (⟨c1, c2, c3, c4, c5, c6, c7, c8, c9⟩ : Cl)))], .agg [.v (.int .i64 ((doN l lb (⟨c1, c2, c3, c4, c5, c6, c7, c8, c9⟩ : Cl)).er)), .v (.int .i64 ((doN l lb (⟨c1, c2, c3, c4, c5, c6, c7, c8, c9⟩ : Cl)).v)), .v (.int .i64 ((doN l lb (⟨c1, c2, c3, c4, c5, c6, c7, c8, c9⟩ : Cl)).t.p)), .v (.bool ((doN l lb (⟨c1, c2, c3, c4, c5, c6, c7, c8, c9⟩ : Cl)).t.sh)), .v (.int .i64 ((doN l lb (⟨c1, c2, c3, c4, c5, c6, c7, c8, c9⟩ : Cl)).t.b)), .v (.int .i64 ((doN l lb (⟨c1, c2, c3, c4, c5, c6, c7, c8, c9⟩ : Cl)).t.o))]])) v H' ∧ HSat w (fun _ => False) H' w' := by
  obtain ⟨κ, hκ⟩ : ∃ κ : Kp, κ = kid := ⟨_, rfl⟩
  have hH : HSat w (fun _ => False) (heapOf [(nilId, .rd none 1 0 []), (200000, .rd Al 6 (κ _ l.length) (κ _ (encL l)))]) w := by
    subst hκ
    refine HSat.reads fun p hp => ?_
    simp only [List.mem_cons, List.not_mem_nil, or_false] at hp
    rcases hp with rfl | rfl
    · exact ⟨_, _, _, _, rfl, nil_holds w⟩
    · exact ⟨_, _, _, _, rfl, hl⟩
  refine (callsP (n := 75) FTok [e_rmap hκ, e_runmap hκ, e_rprotect hκ, e_rremap hκ, e_rbmove hκ, e_rfault hκ] mixed [(17, [[], [0], [], [0, 1, 2], [3], []])] Tryz.func7 rfl (by kernel_rfl) #[(SV.agg [.sl 200000 Al l.length cl, .v (.int .i64 lb)]).den, (SV.agg [.v (.int .i64 c1), .v (.int .i64 c2), .v (.int .i64 c3), .v (.int .i64 c4), .v (.int .i64 c5), .v (.int .i64 c6), .v (.int .i64 c7), .v (.int .i64 c8), .v (.int .i64 c9)]).den] [(0, .agg [.sl 200000 Al (κ _ l.length) cl, .v (.int .i64 lb)]), (1, .agg [.v (.int .i64 c1), .v (.int .i64 c2), .v (.int .i64 c3), .v (.int .i64 c4), .v (.int .i64 c5), .v (.int .i64 c6), .v (.int .i64 c7), .v (.int .i64 c8), .v (.int .i64 c9)])] _ w rfl [.cell 4 28, .cell 5 33] rfl (by simp) (by subst hκ; simp [SV.den, C.den, kid]) hH (fun v H' => IsX (.alt ((κ _ (doSame l lb (⟨c1, c2, c3, c4, c5, c6, c7, c8, c9⟩ : Cl)))) (.sl 200000 Al (κ _ l.length) cl) (fun x => .tup [.agg [x, .v (.int .i64 (κ _ (doB l lb (⟨c1, c2, c3, c4, c5, c6, c7, c8, c9⟩ : Cl))))], .agg [.v (.int .i64 (κ _ ((doN l lb (⟨c1, c2, c3, c4, c5, c6, c7, c8, c9⟩ : Cl)).er))), .v (.int .i64 (κ _ ((doN l lb (⟨c1, c2, c3, c4, c5, c6, c7, c8, c9⟩ : Cl)).v))), .v (.int .i64 (κ _ ((doN l lb (⟨c1, c2, c3, c4, c5, c6, c7, c8, c9⟩ : Cl)).t.p))), .v (.bool (κ _ ((doN l lb (⟨c1, c2, c3, c4, c5, c6, c7, c8, c9⟩ : Cl)).t.sh))), .v (.int .i64 (κ _ ((doN l lb (⟨c1, c2, c3, c4, c5, c6, c7, c8, c9⟩ : Cl)).t.b))), .v (.int .i64 (κ _ ((doN l lb (⟨c1, c2, c3, c4, c5, c6, c7, c8, c9⟩ : Cl)).t.o)))]]) ((κ _ (doL l lb (⟨c1, c2, c3, c4, c5, c6, c7, c8, c9⟩ : Cl)))) (fun x => .tup [.agg [x, .v (.int .i64 (κ _ (doB l lb (⟨c1, c2, c3, c4, c5, c6, c7, c8, c9⟩ : Cl))))], .agg [.v (.int .i64 (κ _ ((doN l lb (⟨c1, c2, c3, c4, c5, c6, c7, c8, c9⟩ : Cl)).er))), .v (.int .i64 (κ _ ((doN l lb (⟨c1, c2, c3, c4, c5, c6, c7, c8, c9⟩ : Cl)).v))), .v (.int .i64 (κ _ ((doN l lb (⟨c1, c2, c3, c4, c5, c6, c7, c8, c9⟩ : Cl)).t.p))), .v (.bool (κ _ ((doN l lb (⟨c1, c2, c3, c4, c5, c6, c7, c8, c9⟩ : Cl)).t.sh))), .v (.int .i64 (κ _ ((doN l lb (⟨c1, c2, c3, c4, c5, c6, c7, c8, c9⟩ : Cl)).t.b))), .v (.int .i64 (κ _ ((doN l lb (⟨c1, c2, c3, c4, c5, c6, c7, c8, c9⟩ : Cl)).t.o)))]])) v H') hκ ?_).mono ?_
  rotate_left
  · subst hκ; intro e w' h; exact h
  intro P' hP'
  cbv
  have hm := (spR_two hside.1).1
  have hb := (spR_two hside.1).2
  repeat' (first | refine And.intro ?_ ?_ | (intro _; cbv) | (refine tst_mk (fun h => ?_) (fun h => ?_) <;> first | (exfalso; subst hκ; delta kid at h; exact absurd h (by decide)) | (exfalso; subst hκ; delta kid at *; cases (h.symm.trans (by with_reducible assumption : _ = false)); done) | (exfalso; subst hκ; delta kid at *; cases (h.symm.trans (by with_reducible assumption : _ = true)); done) | (exfalso; subst hκ; delta kid at *; exact (beq_no (by with_reducible assumption)) (bne_no h)) | (exfalso; subst hκ; delta kid at *; exact (beq_no h) (beq_yes (by with_reducible assumption))) | (exfalso; subst hκ; delta kid at *; exact (beq_no (by with_reducible assumption)) (beq_yes h)) | cbv) | (refine LookX.nil ?_; cbv) | (refine LookX.auto hκ ?_; cbv))
  all_goals (try (show Side _; refine ⟨?_⟩; subst hκ; delta kid at *; first | exact rfl | exact trivial | exact ⟨rfl, rfl, .inl rfl⟩ | exact ⟨rfl, rfl, .inl rfl⟩ | exact hm | exact ⟨hm, hb⟩ | exact ⟨hm, hside.2.1⟩ | exact ⟨hm, hside.2.1, hside.2.2.2.2, hside.2.2.2.1⟩ | exact ⟨hm, hside.2.1, hside.2.2.1, hside.2.2.2.1⟩ | ((try dsimp only at *); (try simp only [setTo_len, noS_len, List.length_append, List.length_cons, List.length_nil, List.length_map, and_self, true_or, or_true, eq_self, true_and, and_true, Nat.zero_add, Nat.add_zero]); (first | done | omega); done)))
  all_goals (clear hH; subst hκ; delta kid at *; (try dsimp only at *))
  all_goals (first | (obtain ⟨e1, e2, e3, e4⟩ := d14_0 (a := c2) (n := c3) (w := c4) (to := c5) (p := c6) (f := c7) (q := c8) (o := c9) hside.1 (by with_reducible assumption); rw [e1, e2, e3, e4]; first | exact IsX.same_ (by with_reducible assumption) rfl | exact IsX.same_ rfl rfl | exact IsX.new_ (by with_reducible assumption) rfl rfl rfl) | (obtain ⟨e1, e2, e3, e4⟩ := d14_1 (a := c2) (n := c3) (w := c4) (to := c5) (p := c6) (f := c7) (q := c8) (o := c9) hside.1 (by with_reducible assumption) (by with_reducible assumption); rw [e1, e2, e3, e4]; first | exact IsX.same_ (by with_reducible assumption) rfl | exact IsX.same_ rfl rfl | exact IsX.new_ (by with_reducible assumption) rfl rfl rfl) | (obtain ⟨e1, e2, e3, e4⟩ := d14_2 (a := c2) (n := c3) (w := c4) (to := c5) (p := c6) (f := c7) (q := c8) (o := c9) hside.1 (by with_reducible assumption) (by with_reducible assumption) (by with_reducible assumption); rw [e1, e2, e3, e4]; first | exact IsX.same_ (by with_reducible assumption) rfl | exact IsX.same_ rfl rfl | exact IsX.new_ (by with_reducible assumption) rfl rfl rfl) | (obtain ⟨e1, e2, e3, e4⟩ := d14_3 (a := c2) (n := c3) (w := c4) (to := c5) (p := c6) (f := c7) (q := c8) (o := c9) hside.1 (by with_reducible assumption) (by with_reducible assumption) (by with_reducible assumption) (by with_reducible assumption); rw [e1, e2, e3, e4]; first | exact IsX.same_ (by with_reducible assumption) rfl | exact IsX.same_ rfl rfl | exact IsX.new_ (by with_reducible assumption) rfl rfl rfl) | (obtain ⟨e1, e2, e3, e4⟩ := d14_4 (a := c2) (n := c3) (w := c4) (to := c5) (p := c6) (f := c7) (q := c8) (o := c9) hside.1 (by with_reducible assumption) (by with_reducible assumption) (by with_reducible assumption) (by with_reducible assumption) (by with_reducible assumption); rw [e1, e2, e3, e4]; first | exact IsX.same_ (by with_reducible assumption) rfl | exact IsX.same_ rfl rfl | exact IsX.new_ (by with_reducible assumption) rfl rfl rfl) | (obtain ⟨e1, e2, e3, e4⟩ := d14_5 (a := c2) (n := c3) (w := c4) (to := c5) (p := c6) (f := c7) (q := c8) (o := c9) hside.1 (by with_reducible assumption) (by with_reducible assumption) (by with_reducible assumption) (by with_reducible assumption) (by with_reducible assumption) (by with_reducible assumption); rw [e1, e2, e3, e4]; first | exact IsX.same_ (by with_reducible assumption) rfl | exact IsX.same_ rfl rfl | exact IsX.new_ (by with_reducible assumption) rfl rfl rfl) | (obtain ⟨e1, e2, e3, e4⟩ := d14_6 (a := c2) (n := c3) (w := c4) (to := c5) (p := c6) (f := c7) (q := c8) (o := c9) hside.1 (by with_reducible assumption) (by with_reducible assumption) (by with_reducible assumption) (by with_reducible assumption) (by with_reducible assumption) (by with_reducible assumption); rw [e1, e2, e3, e4]; first | exact IsX.same_ (by with_reducible assumption) rfl | exact IsX.same_ rfl rfl | exact IsX.new_ (by with_reducible assumption) rfl rfl rfl))
def e_rdo {κ : Kp} (hκ : κ = kid) : ESpec Tryz.prog := fn2ES [.sp, .flat] b_rdo F_rdo hκ fun avs p r hF hp => by
  unfold F_rdo at hF
  split at hF
  case h_2 => cases hF
  rename_i l xl lb c1 c2 c3 c4 c5 c6 c7 c8 c9
  simp only [kid, Option.some.injEq, Prod.mk.injEq] at hF
  obtain ⟨rfl, rfl⟩ := hF
  refine ⟨fun x y h => by simp [SV.den, SV.den0, h], fun vs w hR => ?_⟩
  obtain ⟨il, Al, cl, vs0, rfl, rfl, hl, hR⟩ := hR
  obtain ⟨vs1, rfl, hR⟩ := hR
  have hR' : vs1 = [] := hR
  subst hR'
  exact (k_rdo l lb c1 c2 c3 c4 c5 c6 c7 c8 c9 Al cl hp w hl).mono fun e w' ⟨v, H', h1, h2, h3⟩ => ⟨v, H', h1, h2.swap rfl, h3⟩
theorem b_same14 : Bodied Tryz.prog 8 := bodied Tryz.func8 rfl (by decide)
def F_same14 : FunX2 := fun κ avs => match avs with
  | [.spv l xl lb, .spv k xk kb] => some (κ _ (l.length ≤ 300000 ∧ k.length ≤ 300000), (.val (.c (.v (.bool (κ _ ((lb == kb) && sameL l k)))))))
  | _ => none
set_option maxRecDepth 100000 in
set_option maxHeartbeats 4000000 in
theorem k_same14 (l : List Ar) (lb : Int) (k : List Ar) (kb : Int) (Al : Option Addr) (cl : Nat) (Ak : Option Addr) (ck : Nat) (hside : l.length ≤ 300000 ∧ k.length ≤ 300000) (w : World) (hl : (Ent.rd Al 6 l.length (encL l)).holds w) (hk : (Ent.rd Ak 6 k.length (encL k)).holds w) :
    Calls Tryz.prog 8 #[(SV.agg [.sl 200000 Al l.length cl, .v (.int .i64 lb)]).den, (SV.agg [.sl 200010 Ak k.length ck, .v (.int .i64 kb)]).den] w fun e w' => ∃ v H', e = .returned v.den ∧ IsX (.val (.c (.v (.bool ((lb == kb) && sameL l k))))) v H' ∧ HSat w (fun _ => False) H' w' := by
  obtain ⟨κ, hκ⟩ : ∃ κ : Kp, κ = kid := ⟨_, rfl⟩
  have hH : HSat w (fun _ => False) (heapOf [(nilId, .rd none 1 0 []), (200000, .rd Al 6 (κ _ l.length) (κ _ (encL l))), (200010, .rd Ak 6 (κ _ k.length) (κ _ (encL k)))]) w := by
    subst hκ
    refine HSat.reads fun p hp => ?_
    simp only [List.mem_cons, List.not_mem_nil, or_false] at hp
    rcases hp with rfl | rfl | rfl
    · exact ⟨_, _, _, _, rfl, nil_holds w⟩
    · exact ⟨_, _, _, _, rfl, hl⟩
    · exact ⟨_, _, _, _, rfl, hk⟩
  refine (callsP (n := 17) FTok [e_rsame hκ] mixed [] Tryz.func8 rfl (by kernel_rfl) #[(SV.agg [.sl 200000 Al l.length cl, .v (.int .i64 lb)]).den, (SV.agg [.sl 200010 Ak k.length ck, .v (.int .i64 kb)]).den] [(0, .agg [.sl 200000 Al (κ _ l.length) cl, .v (.int .i64 lb)]), (1, .agg [.sl 200010 Ak (κ _ k.length) ck, .v (.int .i64 kb)])] _ w rfl [.tmp 4] rfl (by simp) (by subst hκ; simp [SV.den, C.den, kid]) hH (fun v H' => IsX (.val (.c (.v (.bool (κ _ ((lb == kb) && sameL l k)))))) v H') hκ ?_).mono ?_
  rotate_left
  · subst hκ; intro e w' h; exact h
  intro P' hP'
  cbv
  repeat' (first | refine And.intro ?_ ?_ | (intro _; cbv) | (refine tst_mk (fun h => ?_) (fun h => ?_) <;> cbv) | (refine LookX.nil ?_; cbv) | (refine LookX.auto hκ ?_; cbv))
  all_goals (try (show Side _; refine ⟨?_⟩; subst hκ; delta kid at *; first | exact rfl | exact trivial | exact ⟨rfl, rfl, .inl rfl⟩ | exact hside | exact hside.1 | ((try dsimp only at *); (try simp only [setTo_len, noS_len, List.length_append, List.length_cons, List.length_nil, List.length_map, and_self, true_or, or_true, eq_self, true_and, and_true, Nat.zero_add, Nat.add_zero]); (first | done | omega); done)))
  all_goals (clear hH; subst hκ; delta kid at *; (try dsimp only at *))
  all_goals (try (exact ⟨trivial⟩))
  all_goals (try (exact ⟨by decide⟩))
  all_goals (show IsX _ _ _; refine IsX.val_ ?_; simp only [SV.den, SV.den0, C.den, List.map_cons, List.map_nil, spR, GT.gt, GE.ge]; (try simp only [*, Bool.or_true, Bool.true_or, Bool.or_false, Bool.false_or, Bool.and_true, Bool.true_and, Bool.and_false, Bool.false_and, Bool.not_true, Bool.not_false, if_true, if_false, Bool.false_eq_true]); (first | done | rfl | (exfalso; simp_all; done) | skip))
def e_same14 {κ : Kp} (hκ : κ = kid) : ESpec Tryz.prog := fn2ES [.sp, .sp] b_same14 F_same14 hκ fun avs p r hF hp => by
  unfold F_same14 at hF
  split at hF
  case h_2 => cases hF
  rename_i l xl lb k xk kb
  simp only [kid, Option.some.injEq, Prod.mk.injEq] at hF
  obtain ⟨rfl, rfl⟩ := hF
  refine ⟨trivial, fun vs w hR => ?_⟩
  obtain ⟨il, Al, cl, vs0, rfl, rfl, hl, hR⟩ := hR
  obtain ⟨ik, Ak, ck, vs1, rfl, rfl, hk, hR⟩ := hR
  have hR' : vs1 = [] := hR
  subst hR'
  exact k_same14 l lb k kb Al cl Ak ck hp w hl hk
end Go.Proofs.YtbcicjmepojlnaaGreat.Eng
/- change.Play: calls one behind the other (printed by play.py of this work); condition: at most 1000 calls, of numbers that are such. -/
namespace Go.Proofs.YtbcicjmepojlnaaGreat.Eng
open Go Go.RowKit
set_option linter.unusedSimpArgs false
set_option linter.unusedVariables false
theorem fit_sp {A : Option Addr} {c : Nat} {x x' : List Ar} {b b' : Int} (h : x' = x) (h2 : b' = b) : [Value.slice A x.length c, Value.int .i64 b] = [Value.slice A x'.length c, Value.int .i64 b'] := by subst h h2; rfl
structure IsPlay (l : List Cl) (v : SV) (H' : Heap) : Prop where
  h : ∃ i A1 c1 j A2 c2, v = .tup [.agg [.sl i A1 (stL l).length c1, .v (.int .i64 (stV l))], .c (.sl j A2 (stA l).length c2)] ∧ H' i = some (.row A1 c1 49 6 (stL l).length (encL (stL l))) ∧ H' j = some (.row A2 c2 33 6 (stA l).length (encAs (stA l))) ∧ i ≠ j
theorem b_play : Bodied Tryz.prog 11 := bodied Tryz.func11 rfl (by decide)
set_option maxRecDepth 100000 in
set_option maxHeartbeats 8000000 in
theorem k_play (l : List Cl) (hn : l.length ≤ 1000) (hc : okC l) (A : Option Addr) (c : Nat) (w : World) (hr : (Ent.rd A 9 l.length (encCs l)).holds w) :
    Calls Tryz.prog 11 #[.slice A l.length c] w fun e w' => ∃ v H', e = .returned v.den ∧ IsPlay l v H' ∧ HSat w (fun _ => False) H' w' := by
  obtain ⟨κ, hκ⟩ : ∃ κ : Kp, κ = kid := ⟨_, rfl⟩
  have hH : HSat w (fun _ => False) (heapOf [(nilId, .rd none 1 0 []), (200000, .rd A 9 (κ _ l.length) (κ _ (encCs l)))]) w := by
    subst hκ
    refine HSat.reads fun p hp => ?_
    simp only [List.mem_cons, List.not_mem_nil, or_false] at hp
    rcases hp with rfl | rfl
    · exact ⟨_, _, _, _, rfl, nil_holds w⟩
    · exact ⟨_, _, _, _, rfl, hr⟩
  refine (callsP (n := 31) FTok [e_cstart hκ, e_cdo hκ] mixed [(7, [[], [0], [0, 1], [0, 1], [0], [], []])] Tryz.func11 rfl (by kernel_rfl) #[.slice A l.length c] [(0, .c (.sl 200000 A (κ _ l.length) c))] _ w rfl [.cell 2 26, .tmp 3] rfl (by simp) (by subst hκ; simp [SV.den, C.den, kid]) hH (fun v H' => IsPlay (κ _ l) v H') hκ ?_).mono ?_
  rotate_left
  · subst hκ; intro e w' h; exact h
  intro P' hP'
  cbv
  repeat' (first | refine And.intro ?_ ?_ | (intro _; cbv) | (refine tst_mk (fun h => ?_) (fun h => ?_) <;> cbv) | (refine LookX.nil ?_; cbv) | (refine LookX.auto hκ ?_; cbv))
  all_goals (try (show Side _; exact ⟨by subst hκ; delta kid; decide⟩))
  all_goals (try (show Side _; exact ⟨by subst hκ; exact trivial⟩))
  rename_i b2 b4
  refine loopP hP' FTok [e_cstart hκ, e_cdo hκ] mixed [2, 4, 11, 12] (σ := Nat × Option Addr × Nat × Option Addr × Nat) (fun q => [(5, .c (.sl 300001 q.2.2.2.1 (κ _ (stA (l.take q.1)).length) q.2.2.2.2)), (13, .c (.v (.int .i64 (κ _ ((q.1 : Nat) : Int)))))])
    (fun q => [(200000, .rd A 9 (κ _ l.length) (κ _ (encCs l))), (2, .blk b2 26 [.sl nilId none 0 0, .v (.int .i64 0)]), (4, .blk b4 26 [.sl 300000 q.2.1 (κ _ (stL (l.take q.1)).length) q.2.2.1, .v (.int .i64 (κ _ (stV (l.take q.1))))]), (300000, .row q.2.1 q.2.2.1 49 6 (κ _ (stL (l.take q.1)).length) (κ _ (encL (stL (l.take q.1))))), (300001, .row q.2.2.2.1 q.2.2.2.2 33 6 (κ _ (stA (l.take q.1)).length) (κ _ (encAs (stA (l.take q.1)))))])
    (fun q => l.length - q.1) (0, none, 0, none, 0) [200000, 2, 4, 999999, 999998] ?_ (by decide) ?_ hκ ?_
  · cbv
    all_goals (subst hκ; delta kid; repeat' (first | exact rfl | exact trivial | refine And.intro ?_ ?_))
  · cbv
    all_goals (subst hκ; delta kid; repeat' (first | exact rfl | exact trivial | refine And.intro ?_ ?_))
  rintro ⟨i, A1, c1, A2, c2⟩
  cbv
  refine tst_mk (fun h => ?_) (fun h => ?_)
  · have hx : i < l.length := by subst hκ; delta kid at h; have h2 : (i : Int) < (l.length : Int) := of_decide_eq_true h; omega
    cbv
    repeat' (first | refine And.intro ?_ ?_ | (intro _; cbv) | (refine tst_mk (fun h => ?_) (fun h => ?_) <;> cbv) | (refine LookX.nil ?_; cbv) | (refine LookX.auto hκ ?_; cbv) | (refine LookN.mk' (x := [.v (.int .i64 (κ _ (nthCl l i).k)), .v (.int .i64 (κ _ (nthCl l i).a)), .v (.int .i64 (κ _ (nthCl l i).n)), .v (.int .i64 (κ _ (nthCl l i).w)), .v (.int .i64 (κ _ (nthCl l i).to)), .v (.int .i64 (κ _ (nthCl l i).p)), .v (.int .i64 (κ _ (nthCl l i).f)), .v (.int .i64 (κ _ (nthCl l i).b)), .v (.int .i64 (κ _ (nthCl l i).o))]) (by subst hκ; delta kid at *; exact cl_take hx) ?_; cbv))
    all_goals (try (show Side _; refine ⟨?_⟩; subst hκ; delta kid at *; first | exact rfl | exact trivial | exact ⟨rfl, rfl, .inl rfl⟩ | exact ⟨rfl, rfl, .inl rfl, rfl⟩ | exact ⟨rfl, rfl, .inl rfl⟩ | exact cl_ix hx | ((try dsimp only at *); have z1 := st_len (okC_take hc i); have z2 := stA_tle hx; (try simp only [maxLen]); (try simp only [setTo_len, noS_len, List.length_append, List.length_cons, List.length_nil, List.length_map, and_self, true_or, or_true, eq_self, true_and, and_true, Nat.zero_add, Nat.add_zero]); (first | done | omega); done)))
    all_goals (clear hH; subst hκ; delta kid at *; (try dsimp only at *))
    all_goals (rename_i A3 c3 _ _ _ A4 c4)
    all_goals (refine ⟨⟨(i + 1, A3, c3, A4, c4), [200000, 2, 4, 20, 27], (by show l.length - (i + 1) < l.length - i; omega), by decide, ?_, ?_⟩⟩)
    all_goals repeat' (first | exact rfl | exact trivial | refine And.intro ?_ ?_ | exact congrArg (Value.int .i64) (nat_succ (by omega)) | exact fit_sp (stL_next hx) (stB_next hx) | exact congrArg (fun n => Value.slice A4 n c4) (stA_tlen hx) | exact stA_tlen hx | exact stA_enc hx | exact congrArg List.length (stL_next hx).symm | exact congrArg encL (stL_next hx).symm)
  · have hx : ¬ i < l.length := by subst hκ; delta kid at h; have h2 : ¬ (i : Int) < (l.length : Int) := of_decide_eq_false h; omega
    cbv
    (clear hH; subst hκ; delta kid at *; (try dsimp only at *))
    have e : l.take i = l := List.take_of_length_le (by omega)
    rw [e]
    exact ⟨⟨300000, A1, c1, 300001, A2, c2, rfl, rfl, rfl, by decide⟩⟩
def playT (κ : Kp) : TSpec := fun args H d K => match args with
  | [.c (.sl id A n c)] => match rowOf (H id) with
    | some (A', z, n', xs) => Side (κ _ (A = A' ∧ z = 9 ∧ n = n')) ∧ LookX encCs xs fun l => Side (κ _ (l.length = n ∧ l.length ≤ 1000 ∧ okC l)) ∧
      ∀ (A1 : Option Addr) (c1 : Nat) (A2 : Option Addr) (c2 : Nat), K (.tup [.agg [.sl d A1 (κ _ (stL l).length) c1, .v (.int .i64 (κ _ (stV l)))], .c (.sl (d + 100000) A2 (κ _ (stA l).length) c2)])
        [(d, some (.row A1 c1 49 6 (κ _ (stL l).length) (κ _ (encL (stL l))))), (d + 100000, some (.row A2 c2 33 6 (κ _ (stA l).length) (κ _ (encAs (stA l)))))]
    | none => False
  | _ => False
theorem playT_conj (args : List SV) (H : Heap) (d : Nat) : ConjP (playT kid args H d) (okKey false H d) := by
  unfold playT
  split
  · split
    · refine .side fun _ => .look encCs_inj fun l _ => .side fun _ => ?_
      exact (ConjP.all_ (α := Option Addr × Nat × Option Addr × Nat) (fun x => .tup [.agg [.sl d x.1 _ x.2.1, .v (.int .i64 _)], .c (.sl (d + 100000) x.2.2.1 _ x.2.2.2)]) (fun x => [(d, some (.row x.1 x.2.1 49 6 _ _)), (d + 100000, some (.row x.2.2.1 x.2.2.2 33 6 _ _))]) (by simp [okKey])).turn fun K => ⟨fun h x => h _ _ _ _, fun h A c B e => h (A, c, B, e)⟩
    · exact .false_
  · exact .false_
def e_play {κ : Kp} (hκ : κ = kid) : ESpec Tryz.prog := ES b_play false playT hκ playT_conj fun args H0 H d w0 M w hs hsub hH => by
  have hs' := hs
  unfold playT at hs'
  split at hs'
  case h_2 => exact hs'.elim
  rename_i id A n c
  split at hs'
  case h_2 => exact hs'.elim
  rename_i A' z n' xs hrow
  obtain ⟨⟨h1⟩, ⟨l, hx, ⟨h2⟩, _⟩⟩ := hs'
  obtain ⟨rfl, rfl, rfl⟩ := h1
  obtain ⟨hn, hb, hc⟩ : l.length = _ ∧ l.length ≤ 1000 ∧ okC l := h2
  subst hn hx
  have hrd : (Ent.rd A 9 l.length (encCs l)).holds w := by
    unfold rowOf at hrow
    split at hrow
    · rename_i he
      injection hrow with h
      injection h with q1 h
      injection h with q2 h
      injection h with q3 q4
      subst q1 q2
      rw [← q3, ← q4]
      exact (hH.drop hsub).holds _ _ he
    · rename_i he
      injection hrow with h
      injection h with q1 h
      injection h with q2 h
      injection h with q3 q4
      subst q1 q2
      rw [← q3, ← q4]
      exact gives_row_rd.holds w ((hH.drop hsub).holds _ _ he)
    · cases hrow
  have key : ∀ K : KT, playT kid [.c (.sl id A l.length c)] H0 d K → ∀ A1 c1 A2 c2, K (.tup [.agg [.sl d A1 (stL l).length c1, .v (.int .i64 (stV l))], .c (.sl (d + 100000) A2 (stA l).length c2)]) [(d, some (.row A1 c1 49 6 (stL l).length (encL (stL l)))), (d + 100000, some (.row A2 c2 33 6 (stA l).length (encAs (stA l))))] := by
    intro K hK
    unfold playT at hK
    simp only [hrow] at hK
    obtain ⟨_, ⟨l2, hl2, _, h⟩⟩ := hK
    have := encCs_inj _ _ hl2
    subst this
    exact h
  refine (k_play l hb hc A c w hrd).mono ?_
  rintro e w' ⟨v, H', rfl, ⟨⟨i, A1, c1, j, A2, c2, rfl, e1, e2, hne⟩⟩, hH'⟩
  refine ⟨_, _, _, rfl, fun K hK => key K hK A1 c1 A2 c2, fun _ => rfl, ?_⟩
  rw [mutE_nil] at hH'
  refine hH.leave (ρ := []) (E := []) (by simp) trivial hH' _ [(d, i), (d + 100000, j)] ?_ ?_ (by simp [hne])
  · intro q hq
    simp only [List.mem_cons, List.not_mem_nil, or_false] at hq
    rcases hq with rfl | rfl
    · exact ⟨_, _, e1, by simp [upds, upd_apply], gives_refl _, rfl⟩
    · exact ⟨_, _, e2, by simp [upds, upd_apply], gives_refl _, rfl⟩
  · intro q hq
    have h1 : d ≠ q := fun e => hq (d, i) (by simp) e
    have h2 : d + 100000 ≠ q := fun e => hq (d + 100000, j) (by simp) e
    exact .inr ⟨upds_other _ H q (by simp [h1, h2]), fun k t e hk => by simp at hk⟩
end Go.Proofs.YtbcicjmepojlnaaGreat.Eng
/- Contracts of functions (printed by genx.py of this work): what each hands back; condition: as its 'hside' says. -/
namespace Go.Proofs.YtbcicjmepojlnaaGreat.Eng
open Go Go.RowKit
set_option linter.unusedVariables false
set_option linter.unusedSimpArgs false
theorem b_awake14 : Bodied Tryz.prog 4 := bodied Tryz.func4 rfl (by decide)
def F_awake14 : FunX := fun κ avs => match avs with
  | [] => some (κ _ (True), (.val (.c (.v (.bool true)))))
  | _ => none
set_option maxRecDepth 100000 in
set_option maxHeartbeats 4000000 in
theorem k_awake14 (hside : True) (w : World) :
    Calls Tryz.prog 4 #[] w fun e w' => ∃ v H', e = .returned v.den ∧ IsX (.val (.c (.v (.bool true)))) v H' ∧ HSat w (fun _ => False) H' w' := by
  obtain ⟨κ, hκ⟩ : ∃ κ : Kp, κ = kid := ⟨_, rfl⟩
  have hH : HSat w (fun _ => False) (heapOf [(nilId, .rd none 1 0 [])]) w := by
    subst hκ
    refine HSat.reads fun p hp => ?_
    simp only [List.mem_cons, List.not_mem_nil, or_false] at hp
    rcases hp with rfl
    · exact ⟨_, _, _, _, rfl, nil_holds w⟩
  refine (callsP (n := 30) FTok [e_play hκ] mixed [] Tryz.func4 rfl (by kernel_rfl) #[] [] _ w rfl [.tmp 0] rfl (by simp) (by subst hκ; simp [SV.den, C.den, kid]) hH (fun v H' => IsX (.val (.c (.v (.bool true)))) v H') hκ ?_).mono ?_
  rotate_left
  · subst hκ; intro e w' h; exact h
  intro P' hP'
  cbv
  repeat' (first | refine And.intro ?_ ?_ | (intro _; cbv) | (refine tst_mk (fun h => ?_) (fun h => ?_) <;> cbv) | (refine LookX.nil ?_; cbv) | (refine LookX.auto hκ ?_; cbv) | (refine LookX.mk' (x := [(⟨0, 0, 1, 0, 0, 1, 0, 0, 0⟩ : Cl)]) (by subst hκ; rfl) ?_; cbv) | (refine LookR.mk' (x := .v (.int .i64 2093056)) (by subst hκ; delta kid; exact aw_v) ?_; cbv))
  all_goals (subst hκ; delta kid at *)
  all_goals (try (show Side _; exact ⟨⟨rfl, rfl, rfl⟩⟩))
  all_goals (try (show Side _; exact ⟨⟨rfl, by decide, aw_ok⟩⟩))
  all_goals (try (show Side _; refine ⟨?_⟩; decide +kernel))
  all_goals (try (show IsX _ _ _; refine IsX.bool_ ?_; decide +kernel))
  all_goals (first | exact absurd h (by decide +kernel) | trace_state)
def e_awake14 {κ : Kp} (hκ : κ = kid) : ESpec Tryz.prog := fnES [] b_awake14 F_awake14 hκ fun avs p r hF hp => by
  unfold F_awake14 at hF
  split at hF
  case h_2 => cases hF
  simp only [kid, Option.some.injEq, Prod.mk.injEq] at hF
  obtain ⟨rfl, rfl⟩ := hF
  refine ⟨trivial, fun vs w hR => ?_⟩
  have hR' : vs = [] := hR
  subst hR'
  exact k_awake14 hp w
set_option maxRecDepth 100000 in
set_option maxHeartbeats 16000000 in
theorem k_changePlays (l : List Cl) (Al : Option Addr) (cl : Nat) (hside : okD l) (w : World) (hl : (Ent.rd Al 9 l.length (encCs l)).holds w) :
    Calls Tryz.prog 3 #[.slice Al l.length cl] w fun e w' => ∃ v H', e = .returned v.den ∧ IsX (.val (.c (.v (.bool true)))) v H' ∧ HSat w (fun _ => False) H' w' := by
  obtain ⟨κ, hκ⟩ : ∃ κ : Kp, κ = kid := ⟨_, rfl⟩
  have hH : HSat w (fun _ => False) (heapOf [(nilId, .rd none 1 0 []), (200000, .rd Al 9 (κ _ l.length) (κ _ (encCs l)))]) w := by
    subst hκ
    refine HSat.reads fun p hp => ?_
    simp only [List.mem_cons, List.not_mem_nil, or_false] at hp
    rcases hp with rfl | rfl
    · exact ⟨_, _, _, _, rfl, nil_holds w⟩
    · exact ⟨_, _, _, _, rfl, hl⟩
  refine (callsP (n := 88) FTok [e_awake14 hκ, e_play hκ, e_cdo hκ, e_csame hκ, e_cright hκ, e_cstart hκ, e_rdo hκ, e_same14 hκ] mixed [(8, [[], [0], [0, 1], [0], [0], [], [], [], [7], [0, 1, 2, 3, 4, 5, 6, 7, 8], [0, 1, 2, 3, 4, 5, 6, 7, 8, 9], [8], []]), (9, [[], [0], [0, 1], [0], [0], [], [], [], [7], [0, 1, 2, 3, 4, 5, 6, 7, 8], [0, 1, 2, 3, 4, 5, 6, 7, 8, 9], [8], []])] Tryz.func3 rfl (by kernel_rfl) #[.slice Al l.length cl] [(0, .c (.sl 200000 Al (κ _ l.length) cl))] _ w rfl [.tmp 2] rfl (by simp) (by subst hκ; simp [SV.den, C.den, kid]) hH (fun v H' => IsX (.val (.c (.v (.bool true)))) v H') hκ ?_).mono ?_
  rotate_left
  · subst hκ; intro e w' h; exact h
  intro P' hP'
  cbv
  have hok := okD_C hside
  repeat' (first | refine And.intro ?_ ?_ | (intro _; cbv) | (refine tst_mk (fun h => ?_) (fun h => ?_) <;> cbv) | (refine LookX.nil ?_; cbv) | (refine LookX.auto hκ ?_; cbv))
  all_goals (try (show Side _; subst hκ; delta kid; exact ⟨by decide⟩))
  all_goals (try (show Side _; subst hκ; delta kid; exact ⟨trivial⟩))
  all_goals (try (show IsX _ _ _; subst hκ; exact IsX.val_ rfl))
  rename_i b3 b4
  have hl : l.length ≤ 60 := by subst hκ; delta kid at *; have q0 : l.length ≤ 60 := by { have q0 : ¬ (60 : Int) < (l.length : Int) := of_decide_eq_false (by assumption); omega }; exact q0
  clear h
  refine loopP hP' FTok [e_play hκ, e_cdo hκ, e_csame hκ, e_cright hκ, e_rdo hκ, e_same14 hκ] mixed [0, 3, 4] (σ := Nat × Option Addr × Nat × Option Addr × Nat) (fun q => [(5, .c (.v (.int .i64 (κ _ ((q.1 : Nat) : Int)))))]) (fun q => [(200000, .rd Al 9 (κ _ l.length) (κ _ (encCs l))), (3, .blk b3 26 [.sl 300000 q.2.1 (κ _ (stL (l.take q.1)).length) q.2.2.1, .v (.int .i64 (κ _ (stV (l.take q.1))))]), (300000, .row q.2.1 q.2.2.1 49 6 (κ _ (stL (l.take q.1)).length) (κ _ (encL (stL (l.take q.1))))), (4, .blk b4 28 [.sl 300001 q.2.2.2.1 (κ _ (stL (l.take q.1)).length) q.2.2.2.2, .v (.int .i64 (κ _ (stV (l.take q.1))))]), (300001, .row q.2.2.2.1 q.2.2.2.2 49 6 (κ _ (stL (l.take q.1)).length) (κ _ (encL (stL (l.take q.1)))))]) (fun q => l.length - q.1) (0, none, 0, none, 0) [200000, 3, 999999, 4, 999998] ?_ (by decide) ?_ hκ ?_
  · cbv
    all_goals (subst hκ; delta kid; repeat' (first | exact rfl | exact trivial | refine And.intro ?_ ?_))
  · cbv
    all_goals (subst hκ; delta kid; repeat' (first | exact rfl | exact trivial | refine And.intro ?_ ?_))
  rintro ⟨i, A1, c1, A2, c2⟩
  cbv
  refine tst_mk (fun h => ?_) (fun h => ?_)
  · have hx : i < l.length := by subst hκ; delta kid at h; have h2 : (i : Int) < (l.length : Int) := of_decide_eq_true h; omega
    clear h
    have hR : spR (stL (l.take i)) (stV (l.take i)) = true := st_right (okC_take hok i)
    have hc := okD_nth hside hx
    have hN := do_ok hR hc.1 hc.2.1
    have hdl := spR_len hN
    have hS := stL_next hx
    have hB := stB_next hx
    cbv
    repeat' (first | refine And.intro ?_ ?_ | (intro _; cbv) | (refine tst_mk (fun h => ?_) (fun h => ?_) <;> cbv) | (refine LookX.nil ?_; cbv) | (refine LookX.auto hκ ?_; cbv) | (refine LookN.mk' (x := [.v (.int .i64 (κ _ (nthCl l i).k)), .v (.int .i64 (κ _ (nthCl l i).a)), .v (.int .i64 (κ _ (nthCl l i).n)), .v (.int .i64 (κ _ (nthCl l i).w)), .v (.int .i64 (κ _ (nthCl l i).to)), .v (.int .i64 (κ _ (nthCl l i).p)), .v (.int .i64 (κ _ (nthCl l i).f)), .v (.int .i64 (κ _ (nthCl l i).b)), .v (.int .i64 (κ _ (nthCl l i).o))]) (by subst hκ; delta kid at *; exact cl_take hx) ?_; cbv))
    all_goals (try (show Side _; (clear hH; subst hκ; delta kid at *; (try dsimp only at *)); first | exact ⟨cl_ixP hx⟩ | exact ⟨Nat.le_trans (spR_len hR) (by decide)⟩ | exact ⟨Nat.le_trans hdl (by decide)⟩ | exact ⟨⟨Nat.le_trans hdl (by decide), Nat.le_trans (spR_len hR) (by decide)⟩⟩ | exact ⟨⟨Nat.le_trans hdl (by decide), Nat.le_trans hdl (by decide)⟩⟩ | exact ⟨⟨hR, hc.1, hc.2.2.2, hc.2.1, hc.2.2.1⟩⟩ | exact ⟨⟨rfl, rfl, .inl rfl⟩⟩ | exact ⟨rfl⟩ | exact ⟨⟨rfl, rfl, rfl⟩⟩))
    all_goals (clear hH; subst hκ; delta kid at *; (try dsimp only at *))
    all_goals (try simp only [cl_eta] at *)
    all_goals (try (show IsX _ _ _; exfalso; first | exact an_no h | (cases ((s14_a hR (by with_reducible assumption)).symm.trans (by with_reducible assumption)); done) | (cases ((s14_b).symm.trans (by with_reducible assumption)); done) | (cases (hN.symm.trans (by with_reducible assumption)); done) | (cases ((s14_c hR (by with_reducible assumption)).symm.trans (by with_reducible assumption)); done)))
    · rename_i A3 c3 _ _ _ _ _ _ _ _ _
      have es : stL (l.take (i + 1)) = stL (l.take i) := hS.trans (doSame_l hR (by with_reducible assumption))
      refine ⟨⟨(i + 1, A3, c3, A2, c2), [200000, 3, 34, 4, 300001], (by show l.length - (i + 1) < l.length - i; omega), by decide, ?_, ?_⟩⟩
      all_goals repeat' (first | exact rfl | exact trivial | refine And.intro ?_ ?_ | exact congrArg (Value.int .i64) (nat_succ (by omega)) | exact fit_sp hS hB | exact fit_sp es hB | exact congrArg List.length hS.symm | exact congrArg encL hS.symm | exact congrArg List.length es.symm | exact congrArg encL es.symm)
    · rename_i A3 c3 _ _ _ _ _ _ _ _
      have es : stL (l.take (i + 1)) = stL (l.take i) := hS.trans (doSame_l hR (by with_reducible assumption))
      refine ⟨⟨(i + 1, A3, c3, A2, c2), [200000, 3, 34, 4, 300001], (by show l.length - (i + 1) < l.length - i; omega), by decide, ?_, ?_⟩⟩
      all_goals repeat' (first | exact rfl | exact trivial | refine And.intro ?_ ?_ | exact congrArg (Value.int .i64) (nat_succ (by omega)) | exact fit_sp hS hB | exact fit_sp es hB | exact congrArg List.length hS.symm | exact congrArg encL hS.symm | exact congrArg List.length es.symm | exact congrArg encL es.symm)
    · rename_i A3 c3 _ _ A4 c4 _ _ _ _ _ _ _
      refine ⟨⟨(i + 1, A3, c3, A4, c4), [200000, 3, 34, 4, 43], (by show l.length - (i + 1) < l.length - i; omega), by decide, ?_, ?_⟩⟩
      all_goals repeat' (first | exact rfl | exact trivial | refine And.intro ?_ ?_ | exact congrArg (Value.int .i64) (nat_succ (by omega)) | exact fit_sp hS hB | exact congrArg List.length hS.symm | exact congrArg encL hS.symm)
    · rename_i A3 c3 _ _ A4 c4 _ _ _ _ _ _
      refine ⟨⟨(i + 1, A3, c3, A4, c4), [200000, 3, 34, 4, 43], (by show l.length - (i + 1) < l.length - i; omega), by decide, ?_, ?_⟩⟩
      all_goals repeat' (first | exact rfl | exact trivial | refine And.intro ?_ ?_ | exact congrArg (Value.int .i64) (nat_succ (by omega)) | exact fit_sp hS hB | exact congrArg List.length hS.symm | exact congrArg encL hS.symm)
  · have hx : ¬ i < l.length := by subst hκ; delta kid at h; have h2 : ¬ (i : Int) < (l.length : Int) := of_decide_eq_false h; omega
    have e : l.take i = l := List.take_of_length_le (by omega)
    rw [e]
    cbv
    repeat' (first | refine And.intro ?_ ?_ | (intro _; cbv) | (refine tst_mk (fun h => ?_) (fun h => ?_) <;> cbv) | (refine LookX.nil ?_; cbv) | (refine LookX.auto hκ ?_; cbv))
    all_goals (try (show Side _; (clear hH; subst hκ; delta kid at *; (try dsimp only at *)); first | exact ⟨⟨rfl, rfl, rfl⟩⟩ | exact ⟨⟨rfl, by omega, hok⟩⟩ | exact ⟨⟨rfl, rfl, .inl rfl⟩⟩ | exact ⟨rfl⟩ | exact ⟨⟨Nat.le_trans (st_len hok) (by decide), Nat.le_trans (st_len hok) (by decide)⟩⟩))
    all_goals (clear hH; subst hκ; delta kid at *; (try dsimp only at *))
    all_goals (show IsX _ _ _; first | exact IsX.bool_ pl_len | exact IsX.bool_ s14_b | (exfalso; cases (s14_b.symm.trans (by with_reducible assumption)); done))
end Go.Proofs.YtbcicjmepojlnaaGreat.Eng
