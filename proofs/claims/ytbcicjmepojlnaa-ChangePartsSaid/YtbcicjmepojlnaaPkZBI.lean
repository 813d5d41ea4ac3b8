/- Texts of this work, laid together: symbolic execution over the model, contracts of the program's functions, what they come to; conditions: as each says. -/
import Derived.Test.YtbcicjmepojlnaaPkZBH
/- Contracts of functions (printed by genk.py of this work): what each hands back; condition: as its 'hside' says. -/
namespace Go.Proofs.Ytbcicjmepojlnaa.Eng
open Go Go.RowKit
set_option linter.unusedVariables false
set_option linter.unusedSimpArgs false
theorem b_khas : Bodied Try.prog 135 := bodied Try.func135 rfl (by decide)
def F_khas : FunK := fun κ l cs rest => match cs, rest with
  | [.v (.int .i64 c1), .v (.int .i64 c2), .v (.int .i64 c3), .v (.int .i64 c4), .v (.int .i64 c5), .v (.int .i64 c6), .v (.int .i64 c7), .v (.int .i64 c8), .v (.int .i64 c9), .v (.int .i64 lo), .v (.int .i64 hi), .v (.int .i64 sz), .v (.int .i64 o1), .v (.int .i64 o2), .v (.int .i64 o3), .v (.bool o4), .v (.int .i64 o5), .v (.int .i64 o6), .v (.int .i64 w1), .v (.int .i64 w2), .v (.int .i64 w3), .v (.bool w4), .v (.int .i64 w5), .v (.int .i64 w6)], [.c (.v (.int .i64 g))] => some (κ _ (True), (.val (.c (.v (.bool (κ _ (bitB c7 g)))))), none)
  | _, _ => none
set_option maxRecDepth 100000 in
set_option maxHeartbeats 4000000 in
theorem k_khas (l : List Ar) (c1 : Int) (c2 : Int) (c3 : Int) (c4 : Int) (c5 : Int) (c6 : Int) (c7 : Int) (c8 : Int) (c9 : Int) (lo : Int) (hi : Int) (sz : Int) (o1 : Int) (o2 : Int) (o3 : Int) (o4 : Bool) (o5 : Int) (o6 : Int) (w1 : Int) (w2 : Int) (w3 : Int) (w4 : Bool) (w5 : Int) (w6 : Int) (g : Int) (hside : True) (b : Nat) (Al : Option Addr) (cl : Nat) (w : World) (hin : InK b 128 [.v (.int .i64 c1), .v (.int .i64 c2), .v (.int .i64 c3), .v (.int .i64 c4), .v (.int .i64 c5), .v (.int .i64 c6), .v (.int .i64 c7), .v (.int .i64 c8), .v (.int .i64 c9), .v (.int .i64 lo), .v (.int .i64 hi), .v (.int .i64 sz), .v (.int .i64 o1), .v (.int .i64 o2), .v (.int .i64 o3), .v (.bool o4), .v (.int .i64 o5), .v (.int .i64 o6), .v (.int .i64 w1), .v (.int .i64 w2), .v (.int .i64 w3), .v (.bool w4), .v (.int .i64 w5), .v (.int .i64 w6)] l Al cl w) :
    Calls Try.prog 135 #[.pointer (some ⟨b, 0, none⟩), (SV.c (.v (.int .i64 g))).den] w fun e w' => ∃ v H', e = .returned v.den ∧ IsP (.val (.c (.v (.bool (bitB c7 g))))) (.blk b 128 (.sl 200010 Al (l.length) cl :: [.v (.int .i64 c1), .v (.int .i64 c2), .v (.int .i64 c3), .v (.int .i64 c4), .v (.int .i64 c5), .v (.int .i64 c6), .v (.int .i64 c7), .v (.int .i64 c8), .v (.int .i64 c9), .v (.int .i64 lo), .v (.int .i64 hi), .v (.int .i64 sz), .v (.int .i64 o1), .v (.int .i64 o2), .v (.int .i64 o3), .v (.bool o4), .v (.int .i64 o5), .v (.int .i64 o6), .v (.int .i64 w1), .v (.int .i64 w2), .v (.int .i64 w3), .v (.bool w4), .v (.int .i64 w5), .v (.int .i64 w6)])) v H' ∧ HSat w (fun g => g = b) H' w' := by
  obtain ⟨κ, hκ⟩ : ∃ κ : Kp, κ = kid := ⟨_, rfl⟩
  have hH : HSat w (fun g => g = b) (heapOf (EK κ b 128 [.v (.int .i64 c1), .v (.int .i64 c2), .v (.int .i64 c3), .v (.int .i64 c4), .v (.int .i64 c5), .v (.int .i64 c6), .v (.int .i64 c7), .v (.int .i64 c8), .v (.int .i64 c9), .v (.int .i64 lo), .v (.int .i64 hi), .v (.int .i64 sz), .v (.int .i64 o1), .v (.int .i64 o2), .v (.int .i64 o3), .v (.bool o4), .v (.int .i64 o5), .v (.int .i64 o6), .v (.int .i64 w1), .v (.int .i64 w2), .v (.int .i64 w3), .v (.bool w4), .v (.int .i64 w5), .v (.int .i64 w6)] l Al cl)) w := by subst hκ; exact hin.h
  unfold EK at hH
  refine (callsP (n := 13) FTok [] mixed [] Try.func135 rfl (by kernel_rfl) #[.pointer (some ⟨b, 0, none⟩), (SV.c (.v (.int .i64 g))).den] [(0, .c (.loc 200000 b 0)), (1, .c (.v (.int .i64 g)))] _ w rfl [.tmp 4] rfl (by simp) (by subst hκ; simp [SV.den, C.den, kid]) hH (fun v H' => IsP (.val (.c (.v (.bool (κ _ (bitB c7 g)))))) (.blk b 128 (.sl 200010 Al (κ _ (l.length)) cl :: [.v (.int .i64 c1), .v (.int .i64 c2), .v (.int .i64 c3), .v (.int .i64 c4), .v (.int .i64 c5), .v (.int .i64 c6), .v (.int .i64 c7), .v (.int .i64 c8), .v (.int .i64 c9), .v (.int .i64 lo), .v (.int .i64 hi), .v (.int .i64 sz), .v (.int .i64 o1), .v (.int .i64 o2), .v (.int .i64 o3), .v (.bool o4), .v (.int .i64 o5), .v (.int .i64 o6), .v (.int .i64 w1), .v (.int .i64 w2), .v (.int .i64 w3), .v (.bool w4), .v (.int .i64 w5), .v (.int .i64 w6)])) v H') hκ ?_).mono ?_
  rotate_left
  · subst hκ; intro e w' h; exact h
  intro P' hP'
  cbv
  repeat' (first | refine And.intro ?_ ?_ | (intro _; cbv) | (refine tst_mk (fun h => ?_) (fun h => ?_) <;> cbv) | (refine LookX.nil ?_; cbv) | (refine LookX.auto hκ ?_; cbv))
  all_goals (try (show Side _; refine ⟨?_⟩; subst hκ; delta kid at *; first | exact rfl | exact trivial | exact ⟨rfl, rfl, .inl rfl⟩ | ((try dsimp only at *); (try simp only [setTo_len, noS_len, List.length_append, List.length_cons, List.length_nil, List.length_map, and_self, true_or, or_true, eq_self, true_and, and_true, Nat.zero_add, Nat.add_zero]); (first | done | omega); done)))
  all_goals (clear hH; subst hκ; delta kid at *; (try dsimp only at *))
  all_goals (try (exact ⟨trivial⟩))
  all_goals (try (exact ⟨by decide⟩))
  all_goals (show IsP _ _ _ _; refine IsP.mk' (IsX.val_ ?_) rfl ?_ <;> simp only [SV.den, SV.den0, C.den, List.map_cons, List.map_nil, bitB, GT.gt, GE.ge] <;> (try simp only [*, Bool.or_true, Bool.true_or, Bool.or_false, Bool.false_or, Bool.and_true, Bool.true_and, Bool.and_false, Bool.false_and, Bool.not_true, Bool.not_false, if_true, if_false, Bool.false_eq_true]) <;> (first | done | rfl | (exfalso; simp_all; done) | skip))
def e_khas {κ : Kp} (hκ : κ = kid) : ESpec Try.prog := recES 128 b_khas F_khas false (fun _ l cs rest p r o hF => by unfold F_khas at hF; split at hF <;> first | (injection hF with hF; injection hF with _ hF; injection hF with _ hF; exact hF.symm) | cases hF) hκ fun l cs rest p r o hF hp => by
  unfold F_khas at hF
  split at hF
  case h_2 => cases hF
  rename_i c1 c2 c3 c4 c5 c6 c7 c8 c9 lo hi sz o1 o2 o3 o4 o5 o6 w1 w2 w3 w4 w5 w6 g
  simp only [kid, Option.some.injEq, Prod.mk.injEq] at hF
  obtain ⟨rfl, rfl, rfl⟩ := hF
  exact ⟨trivial, fun b A c w hin => k_khas l c1 c2 c3 c4 c5 c6 c7 c8 c9 lo hi sz o1 o2 o3 o4 o5 o6 w1 w2 w3 w4 w5 w6 g hp b A c w hin⟩
theorem b_klong : Bodied Try.prog 156 := bodied Try.func156 rfl (by decide)
def F_klong : FunK := fun κ l cs rest => match cs, rest with
  | [.v (.int .i64 c1), .v (.int .i64 c2), .v (.int .i64 c3), .v (.int .i64 c4), .v (.int .i64 c5), .v (.int .i64 c6), .v (.int .i64 c7), .v (.int .i64 c8), .v (.int .i64 c9), .v (.int .i64 lo), .v (.int .i64 hi), .v (.int .i64 sz), .v (.int .i64 o1), .v (.int .i64 o2), .v (.int .i64 o3), .v (.bool o4), .v (.int .i64 o5), .v (.int .i64 o6), .v (.int .i64 w1), .v (.int .i64 w2), .v (.int .i64 w3), .v (.bool w4), .v (.int .i64 w5), .v (.int .i64 w6)], [] => some (κ _ (True), (.val (.c (.v (.bool (κ _ (longK o5 o6 sz)))))), none)
  | _, _ => none
set_option maxRecDepth 100000 in
set_option maxHeartbeats 4000000 in
theorem k_klong (l : List Ar) (c1 : Int) (c2 : Int) (c3 : Int) (c4 : Int) (c5 : Int) (c6 : Int) (c7 : Int) (c8 : Int) (c9 : Int) (lo : Int) (hi : Int) (sz : Int) (o1 : Int) (o2 : Int) (o3 : Int) (o4 : Bool) (o5 : Int) (o6 : Int) (w1 : Int) (w2 : Int) (w3 : Int) (w4 : Bool) (w5 : Int) (w6 : Int) (hside : True) (b : Nat) (Al : Option Addr) (cl : Nat) (w : World) (hin : InK b 128 [.v (.int .i64 c1), .v (.int .i64 c2), .v (.int .i64 c3), .v (.int .i64 c4), .v (.int .i64 c5), .v (.int .i64 c6), .v (.int .i64 c7), .v (.int .i64 c8), .v (.int .i64 c9), .v (.int .i64 lo), .v (.int .i64 hi), .v (.int .i64 sz), .v (.int .i64 o1), .v (.int .i64 o2), .v (.int .i64 o3), .v (.bool o4), .v (.int .i64 o5), .v (.int .i64 o6), .v (.int .i64 w1), .v (.int .i64 w2), .v (.int .i64 w3), .v (.bool w4), .v (.int .i64 w5), .v (.int .i64 w6)] l Al cl w) :
    Calls Try.prog 156 #[.pointer (some ⟨b, 0, none⟩)] w fun e w' => ∃ v H', e = .returned v.den ∧ IsP (.val (.c (.v (.bool (longK o5 o6 sz))))) (.blk b 128 (.sl 200010 Al (l.length) cl :: [.v (.int .i64 c1), .v (.int .i64 c2), .v (.int .i64 c3), .v (.int .i64 c4), .v (.int .i64 c5), .v (.int .i64 c6), .v (.int .i64 c7), .v (.int .i64 c8), .v (.int .i64 c9), .v (.int .i64 lo), .v (.int .i64 hi), .v (.int .i64 sz), .v (.int .i64 o1), .v (.int .i64 o2), .v (.int .i64 o3), .v (.bool o4), .v (.int .i64 o5), .v (.int .i64 o6), .v (.int .i64 w1), .v (.int .i64 w2), .v (.int .i64 w3), .v (.bool w4), .v (.int .i64 w5), .v (.int .i64 w6)])) v H' ∧ HSat w (fun g => g = b) H' w' := by
  obtain ⟨κ, hκ⟩ : ∃ κ : Kp, κ = kid := ⟨_, rfl⟩
  have hH : HSat w (fun g => g = b) (heapOf (EK κ b 128 [.v (.int .i64 c1), .v (.int .i64 c2), .v (.int .i64 c3), .v (.int .i64 c4), .v (.int .i64 c5), .v (.int .i64 c6), .v (.int .i64 c7), .v (.int .i64 c8), .v (.int .i64 c9), .v (.int .i64 lo), .v (.int .i64 hi), .v (.int .i64 sz), .v (.int .i64 o1), .v (.int .i64 o2), .v (.int .i64 o3), .v (.bool o4), .v (.int .i64 o5), .v (.int .i64 o6), .v (.int .i64 w1), .v (.int .i64 w2), .v (.int .i64 w3), .v (.bool w4), .v (.int .i64 w5), .v (.int .i64 w6)] l Al cl)) w := by subst hκ; exact hin.h
  unfold EK at hH
  refine (callsP (n := 22) FTok [] mixed [(1, [[], [], [], [], [], [], [], [], [], [], [], [], [7, 8, 9, 10, 11], [7, 8, 9, 10, 11], [7, 8, 9, 10, 11], [7, 8, 9, 10, 11], [7, 8, 9, 10, 11], [], [], []])] Try.func156 rfl (by kernel_rfl) #[.pointer (some ⟨b, 0, none⟩)] [(0, .c (.loc 200000 b 0))] _ w rfl [.tmp 2] rfl (by simp) (by subst hκ; simp [SV.den, C.den, kid]) hH (fun v H' => IsP (.val (.c (.v (.bool (κ _ (longK o5 o6 sz)))))) (.blk b 128 (.sl 200010 Al (κ _ (l.length)) cl :: [.v (.int .i64 c1), .v (.int .i64 c2), .v (.int .i64 c3), .v (.int .i64 c4), .v (.int .i64 c5), .v (.int .i64 c6), .v (.int .i64 c7), .v (.int .i64 c8), .v (.int .i64 c9), .v (.int .i64 lo), .v (.int .i64 hi), .v (.int .i64 sz), .v (.int .i64 o1), .v (.int .i64 o2), .v (.int .i64 o3), .v (.bool o4), .v (.int .i64 o5), .v (.int .i64 o6), .v (.int .i64 w1), .v (.int .i64 w2), .v (.int .i64 w3), .v (.bool w4), .v (.int .i64 w5), .v (.int .i64 w6)])) v H') hκ ?_).mono ?_
  rotate_left
  · subst hκ; intro e w' h; exact h
  intro P' hP'
  cbv
  repeat' (first | refine And.intro ?_ ?_ | (intro _; cbv) | (refine tst_mk (fun h => ?_) (fun h => ?_) <;> cbv) | (refine LookX.nil ?_; cbv) | (refine LookX.auto hκ ?_; cbv))
  all_goals (try (show Side _; refine ⟨?_⟩; subst hκ; delta kid at *; first | exact rfl | exact trivial | exact ⟨rfl, rfl, .inl rfl⟩ | ((try dsimp only at *); (try simp only [setTo_len, noS_len, List.length_append, List.length_cons, List.length_nil, List.length_map, and_self, true_or, or_true, eq_self, true_and, and_true, Nat.zero_add, Nat.add_zero]); (first | done | omega); done)))
  all_goals (clear hH; subst hκ; delta kid at *; (try dsimp only at *))
  all_goals (try (exact ⟨trivial⟩))
  all_goals (try (exact ⟨by decide⟩))
  all_goals (show IsP _ _ _ _; refine IsP.mk' (IsX.val_ ?_) rfl ?_ <;> simp only [SV.den, SV.den0, C.den, List.map_cons, List.map_nil, longK, GT.gt, GE.ge] <;> (try simp only [*, Bool.or_true, Bool.true_or, Bool.or_false, Bool.false_or, Bool.and_true, Bool.true_and, Bool.and_false, Bool.false_and, Bool.not_true, Bool.not_false, if_true, if_false, Bool.false_eq_true]) <;> (first | done | rfl | (exfalso; simp_all; done) | skip))
def e_klong {κ : Kp} (hκ : κ = kid) : ESpec Try.prog := recES 128 b_klong F_klong false (fun _ l cs rest p r o hF => by unfold F_klong at hF; split at hF <;> first | (injection hF with hF; injection hF with _ hF; injection hF with _ hF; exact hF.symm) | cases hF) hκ fun l cs rest p r o hF hp => by
  unfold F_klong at hF
  split at hF
  case h_2 => cases hF
  rename_i c1 c2 c3 c4 c5 c6 c7 c8 c9 lo hi sz o1 o2 o3 o4 o5 o6 w1 w2 w3 w4 w5 w6 
  simp only [kid, Option.some.injEq, Prod.mk.injEq] at hF
  obtain ⟨rfl, rfl, rfl⟩ := hF
  exact ⟨trivial, fun b A c w hin => k_klong l c1 c2 c3 c4 c5 c6 c7 c8 c9 lo hi sz o1 o2 o3 o4 o5 o6 w1 w2 w3 w4 w5 w6  hp b A c w hin⟩
theorem b_kfail : Bodied Try.prog 134 := bodied Try.func134 rfl (by decide)
def F_kfail : FunK := fun κ l cs rest => match cs, rest with
  | [.v (.int .i64 c1), .v (.int .i64 c2), .v (.int .i64 c3), .v (.int .i64 c4), .v (.int .i64 c5), .v (.int .i64 c6), .v (.int .i64 c7), .v (.int .i64 c8), .v (.int .i64 c9), .v (.int .i64 lo), .v (.int .i64 hi), .v (.int .i64 sz), .v (.int .i64 o1), .v (.int .i64 o2), .v (.int .i64 o3), .v (.bool o4), .v (.int .i64 o5), .v (.int .i64 o6), .v (.int .i64 w1), .v (.int .i64 w2), .v (.int .i64 w3), .v (.bool w4), .v (.int .i64 w5), .v (.int .i64 w6)], [.c (.v (.int .i64 er))] => some (κ _ (l.length ≤ 300000), (.row 53 6 ((κ _ ((l).length))) ((κ _ (encL (l)))) (fun x => .tup [.c x, .agg [.v (.int .i64 (κ _ (er))), .v (.int .i64 0), .v (.int .i64 0), .v (.bool false), .v (.int .i64 0), .v (.int .i64 0)]])), none)
  | _, _ => none
set_option maxRecDepth 100000 in
set_option maxHeartbeats 4000000 in
theorem k_kfail (l : List Ar) (c1 : Int) (c2 : Int) (c3 : Int) (c4 : Int) (c5 : Int) (c6 : Int) (c7 : Int) (c8 : Int) (c9 : Int) (lo : Int) (hi : Int) (sz : Int) (o1 : Int) (o2 : Int) (o3 : Int) (o4 : Bool) (o5 : Int) (o6 : Int) (w1 : Int) (w2 : Int) (w3 : Int) (w4 : Bool) (w5 : Int) (w6 : Int) (er : Int) (hside : l.length ≤ 300000) (b : Nat) (Al : Option Addr) (cl : Nat) (w : World) (hin : InK b 128 [.v (.int .i64 c1), .v (.int .i64 c2), .v (.int .i64 c3), .v (.int .i64 c4), .v (.int .i64 c5), .v (.int .i64 c6), .v (.int .i64 c7), .v (.int .i64 c8), .v (.int .i64 c9), .v (.int .i64 lo), .v (.int .i64 hi), .v (.int .i64 sz), .v (.int .i64 o1), .v (.int .i64 o2), .v (.int .i64 o3), .v (.bool o4), .v (.int .i64 o5), .v (.int .i64 o6), .v (.int .i64 w1), .v (.int .i64 w2), .v (.int .i64 w3), .v (.bool w4), .v (.int .i64 w5), .v (.int .i64 w6)] l Al cl w) :
    Calls Try.prog 134 #[.pointer (some ⟨b, 0, none⟩), (SV.c (.v (.int .i64 er))).den] w fun e w' => ∃ v H', e = .returned v.den ∧ IsP (.row 53 6 (((l).length)) ((encL (l))) (fun x => .tup [.c x, .agg [.v (.int .i64 (er)), .v (.int .i64 0), .v (.int .i64 0), .v (.bool false), .v (.int .i64 0), .v (.int .i64 0)]])) (.blk b 128 (.sl 200010 Al (l.length) cl :: [.v (.int .i64 c1), .v (.int .i64 c2), .v (.int .i64 c3), .v (.int .i64 c4), .v (.int .i64 c5), .v (.int .i64 c6), .v (.int .i64 c7), .v (.int .i64 c8), .v (.int .i64 c9), .v (.int .i64 lo), .v (.int .i64 hi), .v (.int .i64 sz), .v (.int .i64 o1), .v (.int .i64 o2), .v (.int .i64 o3), .v (.bool o4), .v (.int .i64 o5), .v (.int .i64 o6), .v (.int .i64 w1), .v (.int .i64 w2), .v (.int .i64 w3), .v (.bool w4), .v (.int .i64 w5), .v (.int .i64 w6)])) v H' ∧ HSat w (fun g => g = b) H' w' := by
  obtain ⟨κ, hκ⟩ : ∃ κ : Kp, κ = kid := ⟨_, rfl⟩
  have hH : HSat w (fun g => g = b) (heapOf (EK κ b 128 [.v (.int .i64 c1), .v (.int .i64 c2), .v (.int .i64 c3), .v (.int .i64 c4), .v (.int .i64 c5), .v (.int .i64 c6), .v (.int .i64 c7), .v (.int .i64 c8), .v (.int .i64 c9), .v (.int .i64 lo), .v (.int .i64 hi), .v (.int .i64 sz), .v (.int .i64 o1), .v (.int .i64 o2), .v (.int .i64 o3), .v (.bool o4), .v (.int .i64 o5), .v (.int .i64 o6), .v (.int .i64 w1), .v (.int .i64 w2), .v (.int .i64 w3), .v (.bool w4), .v (.int .i64 w5), .v (.int .i64 w6)] l Al cl)) w := by subst hκ; exact hin.h
  unfold EK at hH
  refine (callsP (n := 13) FTok [e_clone hκ] mixed [] Try.func134 rfl (by kernel_rfl) #[.pointer (some ⟨b, 0, none⟩), (SV.c (.v (.int .i64 er))).den] [(0, .c (.loc 200000 b 0)), (1, .c (.v (.int .i64 er)))] _ w rfl [.tmp 4, .cell 5 31] rfl (by simp) (by subst hκ; simp [SV.den, C.den, kid]) hH (fun v H' => IsP (.row 53 6 ((κ _ ((l).length))) ((κ _ (encL (l)))) (fun x => .tup [.c x, .agg [.v (.int .i64 (κ _ (er))), .v (.int .i64 0), .v (.int .i64 0), .v (.bool false), .v (.int .i64 0), .v (.int .i64 0)]])) (.blk b 128 (.sl 200010 Al (κ _ (l.length)) cl :: [.v (.int .i64 c1), .v (.int .i64 c2), .v (.int .i64 c3), .v (.int .i64 c4), .v (.int .i64 c5), .v (.int .i64 c6), .v (.int .i64 c7), .v (.int .i64 c8), .v (.int .i64 c9), .v (.int .i64 lo), .v (.int .i64 hi), .v (.int .i64 sz), .v (.int .i64 o1), .v (.int .i64 o2), .v (.int .i64 o3), .v (.bool o4), .v (.int .i64 o5), .v (.int .i64 o6), .v (.int .i64 w1), .v (.int .i64 w2), .v (.int .i64 w3), .v (.bool w4), .v (.int .i64 w5), .v (.int .i64 w6)])) v H') hκ ?_).mono ?_
  rotate_left
  · subst hκ; intro e w' h; exact h
  intro P' hP'
  cbv
  repeat' (first | refine And.intro ?_ ?_ | (intro _; cbv) | (refine tst_mk (fun h => ?_) (fun h => ?_) <;> cbv) | (refine LookX.nil ?_; cbv) | (refine LookX.auto hκ ?_; cbv))
  all_goals (try (show Side _; refine ⟨?_⟩; subst hκ; delta kid at *; first | exact rfl | exact trivial | exact ⟨rfl, rfl, .inl rfl⟩ | ((try dsimp only at *); (try simp only [setTo_len, noS_len, List.length_append, List.length_cons, List.length_nil, List.length_map, and_self, true_or, or_true, eq_self, true_and, and_true, Nat.zero_add, Nat.add_zero]); (first | done | omega); done)))
  all_goals (clear hH; subst hκ; delta kid at *; (try dsimp only at *))
  all_goals (show IsP _ _ _ _; refine IsP.mk' (IsX.rowM rfl rfl (fun x => ?_) ?_) rfl rfl <;> (try simp only [errA, *, Bool.or_true, Bool.true_or, Bool.or_false, Bool.false_or, Bool.and_true, Bool.true_and, Bool.and_false, Bool.false_and, Bool.not_true, Bool.not_false, if_true, if_false, Bool.false_eq_true]) <;> (try rfl))
def e_kfail {κ : Kp} (hκ : κ = kid) : ESpec Try.prog := recES 128 b_kfail F_kfail false (fun _ l cs rest p r o hF => by unfold F_kfail at hF; split at hF <;> first | (injection hF with hF; injection hF with _ hF; injection hF with _ hF; exact hF.symm) | cases hF) hκ fun l cs rest p r o hF hp => by
  unfold F_kfail at hF
  split at hF
  case h_2 => cases hF
  rename_i c1 c2 c3 c4 c5 c6 c7 c8 c9 lo hi sz o1 o2 o3 o4 o5 o6 w1 w2 w3 w4 w5 w6 er
  simp only [kid, Option.some.injEq, Prod.mk.injEq] at hF
  obtain ⟨rfl, rfl, rfl⟩ := hF
  exact ⟨fun x y h => by simp [SV.den, SV.den0, h], fun b A c w hin => k_kfail l c1 c2 c3 c4 c5 c6 c7 c8 c9 lo hi sz o1 o2 o3 o4 o5 o6 w1 w2 w3 w4 w5 w6 er hp b A c w hin⟩
end Go.Proofs.Ytbcicjmepojlnaa.Eng
